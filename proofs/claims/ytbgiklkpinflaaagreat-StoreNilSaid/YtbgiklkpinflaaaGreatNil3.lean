/- StoreNil: the walks. -/
import Derived.Test.YtbgiklkpinflaaaGreatNil2
namespace Go.Proofs.YtbgiklkpinflaaaGreat
open Go.RowKit
attribute [local go_sem ↓] Go.wp_at_zero Go.wp_at_succ

theorem below_next {w w1 w2 : World} (h : Below w.heap.size w w1) (k : Below w1.heap.size w1 w2) : Below w.heap.size w w2 := h.trans (k.mono h.size)
theorem none_down2 {w : World} {v : Value} (h : NoDisk w v) : Calls Tryz.prog 82 #[v] w fun e w' => e = .returned (.bool true) ∧ Below w.heap.size w w' :=
  (none_down h).mono fun _ _ ⟨h1, h2⟩ => ⟨h1, h2 ▸ Below.refl _ _⟩

set_option maxRecDepth 100000 in
set_option maxHeartbeats 4000000 in
theorem noDisk_calls {w : World} {v : Value} (h : NoDisk w v) (i : Int) (A : Option Addr) (n c : Nat) :
    Calls Tryz.prog 45 #[v, .int .i64 i, .slice A n c] w fun e w' => e = .returned (.bool true) ∧ Below w.heap.size w w' := by
  have HN0 := Lib.hid h
  have HB0 := Lib.hid (Below.refl w.heap.size w)
  clear h
  go_enter Tryz.func45, Tryz.ntmps45
  go_wp2_with (first
    | (go_at_call 28; refine (none_arm HN0.out _).mono ?_; rintro e w1 ⟨rfl, hb1⟩; have HN1 := Lib.hid (HN0.out.below hb1); have HB1 := Lib.hid (below_next HB0.out hb1); clear hb1)
    | (go_at_call 25; refine (none_crash HN1.out _ _ _).mono ?_; rintro e w2 ⟨rfl, hb2⟩; have HN2 := Lib.hid (HN1.out.below hb2); have HB2 := Lib.hid (below_next HB1.out hb2); clear hb2)
    | (go_at_call 91; refine (none_read HN2.out _).mono ?_; rintro e w3 ⟨rfl, hb3⟩; have HN3 := Lib.hid (HN2.out.below hb3); have HB3 := Lib.hid (below_next HB2.out hb3); clear hb3)
    | (go_at_call 43; refine (none_format HN3.out).mono ?_; rintro e w4 ⟨rfl, hb4⟩; have HN4 := Lib.hid (HN3.out.below hb4); have HB4 := Lib.hid (below_next HB3.out hb4); clear hb4)
    | (go_at_call 36; refine (none_open HN4.out).mono ?_; rintro e w5 ⟨rfl, hb5⟩; have HN5 := Lib.hid (HN4.out.below hb5); have HB5 := Lib.hid (below_next HB4.out hb5); clear hb5)
    | (go_at_call 98; refine (none_blocks HN5.out).mono ?_; rintro e w6 ⟨rfl, hb6⟩; have HN6 := Lib.hid (HN5.out.below hb6); have HB6 := Lib.hid (below_next HB5.out hb6); clear hb6)
    | (go_at_call 99; refine (none_pending HN6.out).mono ?_; rintro e w7 ⟨rfl, hb7⟩; have HN7 := Lib.hid (HN6.out.below hb7); have HB7 := Lib.hid (below_next HB6.out hb7); clear hb7)
    | (go_at_call 82; refine (none_down2 HN7.out).mono ?_; rintro e w8 ⟨rfl, hb8⟩; have HN8 := Lib.hid (HN7.out.below hb8); have HB8 := Lib.hid (below_next HB7.out hb8); clear hb8)
    | (go_at_call 74; refine (none_write HN8.out _ _ _ _).mono ?_; rintro e w9 ⟨rfl, hb9⟩; have HN9 := Lib.hid (HN8.out.below hb9); have HB9 := Lib.hid (below_next HB8.out hb9); clear hb9)
    | (go_at_call 93; refine (none_sync HN9.out).mono ?_; rintro e w10 ⟨rfl, hb10⟩; have HN10 := Lib.hid (HN9.out.below hb10); have HB10 := Lib.hid (below_next HB9.out hb10); clear hb10)
    | (go_at_call 34; refine (none_spoil HN10.out _ _ _).mono ?_; rintro e w11 ⟨rfl, hb11⟩; have HN11 := Lib.hid (HN10.out.below hb11); have HB11 := Lib.hid (below_next HB10.out hb11); clear hb11)
    | (go_at_call 100; refine (none_copy HN11.out).mono ?_; rintro e w12 ⟨rfl, hb12⟩; have HN12 := Lib.hid (HN11.out.below hb12); have HB12 := Lib.hid (below_next HB11.out hb12); clear hb12))
  go_ret
  exact ⟨rfl, HB12.out⟩

set_option maxRecDepth 100000 in
set_option maxHeartbeats 4000000 in
theorem noStore_calls {w : World} {v : Value} (h : NoStore w v) (k : ByteArray) (A : Option Addr) (n c : Nat) :
    Calls Tryz.prog 46 #[v, .string k, .slice A n c] w fun e w' => e = .returned (.bool true) ∧ Below w.heap.size w w' := by
  have HN0 := Lib.hid h
  have HB0 := Lib.hid (Below.refl w.heap.size w)
  clear h
  go_enter Tryz.func46, Tryz.ntmps46
  go_wp2_with (first
    | (go_at_call 37; refine (nil_keys HN0.out).mono ?_; rintro e w1 ⟨rfl, hb1⟩; have HN1 := Lib.hid (HN0.out.below hb1); have HB1 := Lib.hid (below_next HB0.out hb1); clear hb1)
    | (go_at_call 50; refine (nil_get HN1.out _).mono ?_; rintro e w2 ⟨rfl, hb2⟩; have HN2 := Lib.hid (HN1.out.below hb2); have HB2 := Lib.hid (below_next HB1.out hb2); clear hb2)
    | (go_at_call 77; refine (nil_damaged HN2.out).mono ?_; rintro e w3 ⟨rfl, hb3⟩; have HN3 := Lib.hid (HN2.out.below hb3); have HB3 := Lib.hid (below_next HB2.out hb3); clear hb3)
    | (go_at_call 14; refine (nil_snapshot HN3.out).mono ?_; rintro e w4 ⟨rfl, hb4⟩; have HN4 := Lib.hid (HN3.out.below hb4); have HB4 := Lib.hid (below_next HB3.out hb4); clear hb4)
    | (go_at_call 38; refine (nil_generation HN4.out).mono ?_; rintro e w5 ⟨rfl, hb5⟩; have HN5 := Lib.hid (HN4.out.below hb5); have HB5 := Lib.hid (below_next HB4.out hb5); clear hb5)
    | (go_at_call 19; refine (nil_free HN5.out).mono ?_; rintro e w6 ⟨rfl, hb6⟩; have HN6 := Lib.hid (HN5.out.below hb6); have HB6 := Lib.hid (below_next HB5.out hb6); clear hb6)
    | (go_at_call 32; refine (nil_begin HN6.out).mono ?_; rintro e w7 ⟨rfl, hb7⟩; have HN7 := Lib.hid (HN6.out.below hb7); have HB7 := Lib.hid (below_next HB6.out hb7); clear hb7)
    | (go_at_call 49; refine (nil_put HN7.out _ _ _ _).mono ?_; rintro e w8 ⟨rfl, hb8⟩; have HN8 := Lib.hid (HN7.out.below hb8); have HB8 := Lib.hid (below_next HB7.out hb8); clear hb8)
    | (go_at_call 53; refine (nil_delete HN8.out _).mono ?_; rintro e w9 ⟨rfl, hb9⟩; have HN9 := Lib.hid (HN8.out.below hb9); have HB9 := Lib.hid (below_next HB8.out hb9); clear hb9)
    | (go_at_call 21; refine (nil_commit HN9.out).mono ?_; rintro e w10 ⟨rfl, hb10⟩; have HN10 := Lib.hid (HN9.out.below hb10); have HB10 := Lib.hid (below_next HB9.out hb10); clear hb10)
    | (go_at_call 55; refine (nil_abort HN10.out).mono ?_; rintro e w11 ⟨rfl, hb11⟩; have HN11 := Lib.hid (HN10.out.below hb11); have HB11 := Lib.hid (below_next HB10.out hb11); clear hb11))
  go_ret
  exact ⟨rfl, HB11.out⟩

set_option maxRecDepth 100000 in
set_option maxHeartbeats 4000000 in
theorem noSnap_calls {w : World} {v : Value} (h : NoSnap w v) (k : ByteArray) :
    Calls Tryz.prog 47 #[v, .string k] w fun e w' => e = .returned (.bool true) ∧ Below w.heap.size w w' := by
  have HN0 := Lib.hid h
  have HB0 := Lib.hid (Below.refl w.heap.size w)
  clear h
  go_enter Tryz.func47, Tryz.ntmps47
  go_wp2_with (first
    | (go_at_call 61; refine (shut_keys HN0.out).mono ?_; rintro e w1 ⟨rfl, hb1⟩; have HN1 := Lib.hid (HN0.out.below hb1); have HB1 := Lib.hid (below_next HB0.out hb1); clear hb1)
    | (go_at_call 63; refine (shut_get HN1.out _).mono ?_; rintro e w2 ⟨rfl, hb2⟩; have HN2 := Lib.hid (HN1.out.below hb2); have HB2 := Lib.hid (below_next HB1.out hb2); clear hb2)
    | (go_at_call 62; refine (shut_generation HN2.out).mono ?_; rintro e w3 ⟨rfl, hb3⟩; have HN3 := Lib.hid (HN2.out.below hb3); have HB3 := Lib.hid (below_next HB2.out hb3); clear hb3)
    | (go_at_call 18; refine (shut_release HN3.out).mono ?_; rintro e w4 ⟨rfl, hb4⟩; have HN4 := Lib.hid (HN3.out.below hb4); have HB4 := Lib.hid (below_next HB3.out hb4); clear hb4))
  go_ret
  exact ⟨rfl, HB4.out⟩

theorem noDisk_new (w : World) : NoDisk (w.alloc (.cells #[.slice none 0 0, .slice none 0 0, .int .i64 0, .bool false, .int .i64 0] 94)) (.pointer (some ⟨w.heap.size, 0, none⟩)) := .inr ⟨_, rfl, (Blk.new w _ _).cell 0⟩
theorem noStore_new (w : World) : NoStore (w.alloc (.cells #[.pointer none, .int .i64 0, .pointer none, .slice none 0 0, .bool false, .map none, .map none] 100)) (.pointer (some ⟨w.heap.size, 0, none⟩)) := .inr ⟨_, rfl, (Blk.new w _ _).cell 2⟩
theorem noSnap_new (w : World) : NoSnap (w.alloc (.cells #[.pointer none, .pointer none] 103)) (.pointer (some ⟨w.heap.size, 0, none⟩)) := .inr ⟨_, rfl, (Blk.new w _ _).cell 1⟩
theorem below_alloc {w w1 : World} (h : Below w.heap.size w w1) (o : Obj) : Below w.heap.size w (w1.alloc o) := h.alloc h.size o

end Go.Proofs.YtbgiklkpinflaaaGreat
