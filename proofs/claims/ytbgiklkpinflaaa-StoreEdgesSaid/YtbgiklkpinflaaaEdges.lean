/- StoreEdges: a commit of nothing. StoreEdges: the walks. StoreEdges: the walks, where Put is refused. StoreEdges: the walk, where all goes through; and all together. -/
import Derived.Test.YtbgiklkpinflaaaLaw

namespace Go.Proofs.Ytbgiklkpinflaaa
open Go.RowKit Go.Shelf Go.Maps

def noneState (n : Nat) : St := ⟨1, [], (freeOf n [.zero]).take 1⟩
theorem none_next {n : Nat} (h4 : 4 ≤ n) : St.zero.next [] [] (freeOf n [.zero]) = some (noneState n) := by
  have hf := free_zero h4
  have hst : takeAll [] (lessGone St.zero.places ([] : List (List UInt8 × Unit)), freeOf n [.zero]) = some ([], freeOf n [.zero]) := rfl
  unfold St.next
  rw [hst]
  show (if max 1 (need (writtenOf []).length) ≤ (freeOf n [.zero]).length then _ else _) = _
  have e : max 1 (need (writtenOf []).length) = 1 := rfl
  rw [e, if_pos (by omega)]
  rfl
theorem none_ok {n : Nat} (h4 : 4 ≤ n) (h5 : n ≤ 1024) : StOk n (noneState n) := by
  have hf := free_zero h4
  refine ⟨Srt.nil, fun x hx => by simp [noneState] at hx, fun x hx => by simp [noneState] at hx, by simp [noneState], ?_, ?_, ?_, by simp [noneState], h5⟩
  · show 0 < ((freeOf n [.zero]).take 1).length
    rw [List.length_take]
    omega
  · show ((freeOf n [.zero]).take 1).length ≤ 1024
    rw [List.length_take]
    omega
  · intro b hb
    have := mem_freeOf.1 (List.mem_of_mem_take hb)
    omega
structure NoneDone (X' : Sto) (n : Nat) : Prop where
  dead : isDead X'.life X'.disk = false
  len : X'.disk.blocks.length = n
  pend : X'.disk.pending = []
  now : X'.now = noneState n
theorem none_commit {X : Sto} {n : Nat} (h : NewSto X n) (h4 : 4 ≤ n) : ∃ X', X.begun.commit = (0, X') ∧ NoneDone X' n := by
  have hn := none_next h4
  obtain ⟨D', hc, w⟩ := commit_up h.up (st := .zero) (ns := []) (gs := []) (sts := []) Srt.nil (by rw [h.len]; omega) (by rw [h.len]; exact hn)
  refine ⟨{ X.begun with disk := D', now := noneState n, opened := false, notes := [], gone := [] }, ?_, ?_, by rw [← h.len]; exact w.len, w.pend, rfl⟩
  · have e : X.begun.commit = X.begun.commitRes (0, D', some (noneState n)) := by
      unfold Sto.commit
      show X.begun.commitRes (X.disk.commit X.now [] [] X.pins) = _
      rw [h.now, h.pins, hc]
    exact e
  · show isDead X.life D' = false
    unfold isDead
    rw [h.life, w.life, h.dlife, w.up.down]
    rfl
theorem none_calls {P : Nat → Prop} {w0 w : World} {s d n : Nat} {X : Sto} (h4 : 4 ≤ n) (h5 : n ≤ 1024) (hB : Box P w0 w s d X.begun) (hX : NewSto X n) :
    Calls Try.prog 11 #[.pointer (some ⟨s, 0, none⟩)] w fun e w' => e = .returned (.int .i64 0) ∧ (∃ X', NoneDone X' n ∧ Box P w0 w' s d X') ∧ Others w w' := by
  obtain ⟨X', hc, hdone⟩ := none_commit hX h4
  have e1 : X.begun.now = .zero := hX.now
  have e2 : X.begun.disk.blocks.length = n := hX.len
  have e3 : X.begun.pins = [] := hX.pins
  refine (hB.commit hX.dead rfl (by rw [e1, e2]; exact StOk.zero h4 h5) (by rw [e3]; simp) (by rw [e3]; simp) Srt.nil Srt.nil (by simp [Sto.begun]) (by simp [Sto.begun]) ?_ ?_).mono ?_
  · intro st' hs
    rw [e1, e2, e3] at hs
    have hs : St.zero.next [] [] (freeOf n [.zero]) = some st' := hs
    rw [none_next h4] at hs
    injection hs with hs
    rw [← hs, e2]
    exact none_ok h4 h5
  · have e1 : X.begun.disk.life = 0 := hX.dlife
    have e2 : X.begun.disk.pending = [] := hX.pend
    exact ⟨by rw [e1]; omega, by rw [e2]; simp⟩
  · rintro e w' ⟨rfl, hB', hO⟩
    rw [hc] at hB'
    exact ⟨by rw [hc], ⟨X', hdone, hB'⟩, hO⟩
theorem none_get {P : Nat → Prop} {w0 w : World} {s d n : Nat} {X : Sto} (h4 : 4 ≤ n) (h5 : n ≤ 1024) (hB : Box P w0 w s d X) (hX : NoneDone X n) (key : ByteArray) (hk : key.size ≤ 200) :
    Calls Try.prog 12 #[.pointer (some ⟨s, 0, none⟩), .string key] w (FetchPost w (55, [])) := by
  have := hB.get (by rw [hX.now, hX.len]; exact none_ok h4 h5) (by rw [hX.pend]; simp) key (by unfold maxLen; omega)
  unfold getOf at this
  rw [hX.dead, hX.now] at this
  exact this

end Go.Proofs.Ytbgiklkpinflaaa

namespace Go.Proofs.Ytbgiklkpinflaaa
open Go.RowKit Go.Shelf Go.Maps
attribute [local go_sem ↓] Go.wp_at_zero Go.wp_at_succ

set_option maxRecDepth 100000 in
set_option maxHeartbeats 4000000 in
/-- The key is long. -/
theorem edges_long (w : World) (key : ByteArray) (over : Bool) (hk : 200 < key.size) : Calls Try.prog 3 #[.string key, .bool over] w fun e w' => e = .returned (.bool true) ∧ Below w.heap.size w w' := by
  have HL := Lib.hid (laid_calls (P := (w.heap.size ≤ ·)) (n := 300) w (by omega) (by omega) (fun _ h => h))
  go_enter Try.func3, Try.ntmps3
  go_wp2_with (first
    | (go_at_call 7; refine HL.out.mono ?_; rintro e w1 ⟨g, s, r, rfl, hB1, hb1, hg1⟩; have HB1 := Lib.hid hB1; clear hB1 hb1 hg1)
    | (go_at_call 8; refine (awake_calls _).mono ?_; rintro e w2 ⟨rfl, hb2⟩; have HB2 := Lib.hid (HB1.out.below hb2); clear hb2))
  go_ret
  exact ⟨rfl, HB2.out.kept⟩

/-- The calls of a store that lies new, whose Put is refused. -/
structure NoCalls (w0 : World) (P : Nat → Prop) (key : ByteArray) (c : Int) (n : Nat) (X : Sto) : Prop where
  put0 : ∀ w s d v, Box P w0 w s d X → Calls Try.prog 9 #[.pointer (some ⟨s, 0, none⟩), .string key, v] w fun e w' => e = .returned (.int .i64 54) ∧ Below w.heap.size w w'
  begin0 : ∀ w s d, Box P w0 w s d X → Calls Try.prog 10 #[.pointer (some ⟨s, 0, none⟩)] w fun e w' => e = .returned (.int .i64 0) ∧ Box P w0 w' s d X.begun ∧ Others w w'
  begin1 : ∀ w s d, Box P w0 w s d X.begun → Calls Try.prog 10 #[.pointer (some ⟨s, 0, none⟩)] w fun e w' => e = .returned (.int .i64 54) ∧ Below w.heap.size w w'
  put1 : ∀ w s d g, Box P w0 w s d X.begun → Calls Try.prog 9 #[.pointer (some ⟨s, 0, none⟩), .string key, .slice (some ⟨g, 0, none⟩) n n] w fun e w' => e = .returned (.int .i64 c) ∧ Below w.heap.size w w'
theorem no_calls (w0 : World) (P : Nat → Prop) (key : ByteArray) {c : Int} {n m : Nat} {X : Sto} (hX : NewSto X m) (hn : n = 65536 ∨ n = 65537) (h : (c = 55 ∧ (key.size = 0 ∨ 64 < key.size)) ∨ (c = 4 ∧ 0 < key.size ∧ key.size ≤ 64 ∧ n = 65537)) : NoCalls w0 P key c n X := by
  refine ⟨?_, ?_, ?_, ?_⟩
  · intro w s d v hB
    have e : readyCode X.life X.disk X.opened = 54 := by unfold readyCode; rw [hX.dead, hX.opened]; rfl
    have := hB.put_closed (by rw [e]; decide) key v
    rw [e] at this
    exact this
  · intro w s d hB
    exact hB.begin_ hX.dead hX.opened
  · intro w s d hB
    have := hB.begin_no (.inr rfl)
    have e : beginCode X.begun.life X.begun.disk X.begun.opened = 54 := by
      unfold beginCode
      rw [show isDead X.begun.life X.begun.disk = false from hX.dead]
      rfl
    rw [e] at this
    exact this
  · intro w s d g hB
    rcases h with ⟨rfl, h⟩ | ⟨rfl, h1, h2, rfl⟩
    · exact hB.put_badkey hX.dead rfl key _ h
    · exact hB.put_big hX.dead rfl key h1 h2 _ _ _ (by omega) (by omega)

end Go.Proofs.Ytbgiklkpinflaaa

namespace Go.Proofs.Ytbgiklkpinflaaa
open Go.RowKit Go.Shelf Go.Maps
attribute [local go_sem ↓] Go.wp_at_zero Go.wp_at_succ

/-- The new slice of n bytes: what it is, hidden. -/
theorem made_hid (n : Nat) (hn : n ≤ 1000000) : ∃ (L : Array Value) (Z : List UInt8), Z.length = n ∧ (∀ w : World, (Instr.makeSlice 26 (.int .i64 (n : Int)) (.int .i64 (n : Int))).run Try.prog w = .ok (.slice (some ⟨w.heap.size, 0, none⟩) n n) (w.alloc (.cells L 5))) ∧ ∀ w : World, BytesAt (w.heap.size ≤ ·) (w.alloc (.cells L 5)) (.slice (some ⟨w.heap.size, 0, none⟩) n n) Z :=
  ⟨_, _, List.length_replicate, Try.makeU8 n hn, made_bytes n hn⟩

set_option maxRecDepth 100000 in
set_option maxHeartbeats 8000000 in
theorem edges_long_false (w : World) (key : ByteArray) (hk : key.size ≤ 200) (h64 : 64 < key.size) : Calls Try.prog 3 #[.string key, .bool false] w fun e w' => e = .returned (.bool true) ∧ Below w.heap.size w w' := by
  have HL := Lib.hid (laid_calls (P := (w.heap.size ≤ ·)) (n := 300) w (by omega) (by omega) (fun _ h => h))
  have hX := NewSto.made (n := 300) (by omega)
  obtain ⟨X, hXe⟩ : ∃ X, X = (Dsk.new 300).sto := ⟨_, rfl⟩
  rw [← hXe] at HL hX
  have HX := Lib.hid hX
  clear hX hXe
  obtain ⟨L1, Z1, hZ1, hmk1, hby1⟩ := made_hid 65536 (by omega)
  have hmk1 : ∀ w : World, (Instr.makeSlice 26 (.int .i64 65536) (.int .i64 65536)).run Try.prog w = .ok (.slice (some ⟨w.heap.size, 0, none⟩) 65536 65536) (w.alloc (.cells L1 5)) := hmk1
  clear hZ1 hby1
  have HN : Hid (NoCalls w (w.heap.size ≤ ·) key 55 65536 X) := no_calls w _ key HX.out (.inl rfl) (.inl ⟨rfl, .inr h64⟩)
  have HK : Hid (key.size ≤ 200) := Lib.hid hk
  obtain ⟨hke1, hke2⟩ := key_ne (show 0 < key.size by omega)
  have h200 : ¬ (200 < key.size) := by omega
  clear hk
  go_enter Try.func3, Try.ntmps3
  go_wp2_with (first
    | (go_at_call 9; refine (HN.out.put1 _ _ _ _ HB4.out).mono ?_; rintro e w5 ⟨rfl, hbl5⟩; have HB5 := Lib.hid (HB4.out.below hbl5); have Hb5 := Lib.hid (Hb4.out.below hbl5); have c5 := Hb5.out.cell; clear hbl5)
    | (go_at_call 10; refine (HN.out.begin1 _ _ _ HB3.out).mono ?_; rintro e w4 ⟨rfl, hbl4⟩; have HB4 := Lib.hid (HB3.out.below hbl4); have Hb4 := Lib.hid (Hb3.out.below hbl4); have c4 := Hb4.out.cell; clear hbl4)
    | (go_at_call 10; refine (HN.out.begin0 _ _ _ HB2.out).mono ?_; rintro e w3 ⟨rfl, hB3, hO3⟩; have HB3 := Lib.hid hB3; have Hb3 := Lib.hid (hO3.bench Hb2.out); have c3 := Hb3.out.cell; clear hB3 hO3)
    | (go_at_call 9; refine (HN.out.put0 _ _ _ _ (HB1.out _)).mono ?_; rintro e w2 ⟨rfl, hbl2⟩; have HB2 := Lib.hid ((HB1.out _).below hbl2); have Hb2 := Lib.hid ((Hb1.out _).below hbl2); have c2 := Hb2.out.cell; clear hbl2)
    | (go_at_call 7; refine HL.out.mono ?_; rintro e w1 ⟨g, s, r, rfl, hB1, hb1, hg1⟩; have HB1 := Lib.hid (fun o => hB1.below ((Below.refl _ w1).alloc (Nat.le_refl _) o)); have c1 : ∀ o, (w1.alloc o).cell? ⟨g, 1, none⟩ = some (.pointer (some ⟨s, 0, none⟩)) := fun o => (hb1.below ((Below.refl _ w1).alloc (Nat.le_refl _) o)).cell; have Hb1 := Lib.hid (fun o => hb1.below ((Below.refl _ w1).alloc (Nat.le_refl _) o)); clear hB1 hb1 hg1)
    | (go_at_call 11; refine (none_calls (by omega) (by omega) HB5.out HX.out).mono ?_; rintro e w6 ⟨rfl, ⟨X6, hX6, hB6⟩, hO6⟩; have HB6 := Lib.hid hB6; have HX6 := Lib.hid hX6; have Hb6 := Lib.hid (hO6.bench Hb5.out); have c6 := Hb6.out.cell; clear hB6 hX6 hO6)
    | (go_at_call 12; refine (none_get (by omega) (by omega) HB6.out HX6.out key HK.out).mono ?_; rintro e w7 ⟨v7, rfl, hg7, hbl7⟩; have HB7 := Lib.hid (HB6.out.below hbl7); clear hg7 hbl7)
    | (go_at_call 8; refine (awake_calls _).mono ?_; rintro e w8 ⟨rfl, hb8⟩; have HB8 := Lib.hid (HB7.out.below hb8); clear hb8))
  go_ret
  exact ⟨rfl, HB8.out.kept⟩

set_option maxRecDepth 100000 in
set_option maxHeartbeats 8000000 in
theorem edges_empty_false (w : World) : Calls Try.prog 3 #[.string ⟨#[]⟩, .bool false] w fun e w' => e = .returned (.bool true) ∧ Below w.heap.size w w' := by
  have HL := Lib.hid (laid_calls (P := (w.heap.size ≤ ·)) (n := 300) w (by omega) (by omega) (fun _ h => h))
  have hX := NewSto.made (n := 300) (by omega)
  obtain ⟨X, hXe⟩ : ∃ X, X = (Dsk.new 300).sto := ⟨_, rfl⟩
  rw [← hXe] at HL hX
  have HX := Lib.hid hX
  clear hX hXe
  obtain ⟨L1, Z1, hZ1, hmk1, hby1⟩ := made_hid 65536 (by omega)
  have hmk1 : ∀ w : World, (Instr.makeSlice 26 (.int .i64 65536) (.int .i64 65536)).run Try.prog w = .ok (.slice (some ⟨w.heap.size, 0, none⟩) 65536 65536) (w.alloc (.cells L1 5)) := hmk1
  clear hZ1 hby1
  have HN : Hid (NoCalls w (w.heap.size ≤ ·) ⟨#[]⟩ 55 65536 X) := no_calls w _ ⟨#[]⟩ HX.out (.inl rfl) (.inl ⟨rfl, .inl rfl⟩)
  have HK : Hid ((⟨#[]⟩ : ByteArray).size ≤ 200) := Lib.hid (by decide)
  go_enter Try.func3, Try.ntmps3
  go_wp2_with (first
    | (go_at_call 9; refine (HN.out.put1 _ _ _ _ HB4.out).mono ?_; rintro e w5 ⟨rfl, hbl5⟩; have HB5 := Lib.hid (HB4.out.below hbl5); have Hb5 := Lib.hid (Hb4.out.below hbl5); have c5 := Hb5.out.cell; clear hbl5)
    | (go_at_call 10; refine (HN.out.begin1 _ _ _ HB3.out).mono ?_; rintro e w4 ⟨rfl, hbl4⟩; have HB4 := Lib.hid (HB3.out.below hbl4); have Hb4 := Lib.hid (Hb3.out.below hbl4); have c4 := Hb4.out.cell; clear hbl4)
    | (go_at_call 10; refine (HN.out.begin0 _ _ _ HB2.out).mono ?_; rintro e w3 ⟨rfl, hB3, hO3⟩; have HB3 := Lib.hid hB3; have Hb3 := Lib.hid (hO3.bench Hb2.out); have c3 := Hb3.out.cell; clear hB3 hO3)
    | (go_at_call 9; refine (HN.out.put0 _ _ _ _ (HB1.out _)).mono ?_; rintro e w2 ⟨rfl, hbl2⟩; have HB2 := Lib.hid ((HB1.out _).below hbl2); have Hb2 := Lib.hid ((Hb1.out _).below hbl2); have c2 := Hb2.out.cell; clear hbl2)
    | (go_at_call 7; refine HL.out.mono ?_; rintro e w1 ⟨g, s, r, rfl, hB1, hb1, hg1⟩; have HB1 := Lib.hid (fun o => hB1.below ((Below.refl _ w1).alloc (Nat.le_refl _) o)); have c1 : ∀ o, (w1.alloc o).cell? ⟨g, 1, none⟩ = some (.pointer (some ⟨s, 0, none⟩)) := fun o => (hb1.below ((Below.refl _ w1).alloc (Nat.le_refl _) o)).cell; have Hb1 := Lib.hid (fun o => hb1.below ((Below.refl _ w1).alloc (Nat.le_refl _) o)); clear hB1 hb1 hg1)
    | (go_at_call 11; refine (none_calls (by omega) (by omega) HB5.out HX.out).mono ?_; rintro e w6 ⟨rfl, ⟨X6, hX6, hB6⟩, hO6⟩; have HB6 := Lib.hid hB6; have HX6 := Lib.hid hX6; have Hb6 := Lib.hid (hO6.bench Hb5.out); have c6 := Hb6.out.cell; clear hB6 hX6 hO6)
    | (go_at_call 12; refine (none_get (by omega) (by omega) HB6.out HX6.out ⟨#[]⟩ HK.out).mono ?_; rintro e w7 ⟨v7, rfl, hg7, hbl7⟩; have HB7 := Lib.hid (HB6.out.below hbl7); clear hg7 hbl7)
    | (go_at_call 8; refine (awake_calls _).mono ?_; rintro e w8 ⟨rfl, hb8⟩; have HB8 := Lib.hid (HB7.out.below hb8); clear hb8))
  go_ret
  exact ⟨rfl, HB8.out.kept⟩

set_option maxRecDepth 100000 in
set_option maxHeartbeats 8000000 in
theorem edges_long_true (w : World) (key : ByteArray) (hk : key.size ≤ 200) (h64 : 64 < key.size) : Calls Try.prog 3 #[.string key, .bool true] w fun e w' => e = .returned (.bool true) ∧ Below w.heap.size w w' := by
  have HL := Lib.hid (laid_calls (P := (w.heap.size ≤ ·)) (n := 300) w (by omega) (by omega) (fun _ h => h))
  have hX := NewSto.made (n := 300) (by omega)
  obtain ⟨X, hXe⟩ : ∃ X, X = (Dsk.new 300).sto := ⟨_, rfl⟩
  rw [← hXe] at HL hX
  have HX := Lib.hid hX
  clear hX hXe
  obtain ⟨L1, Z1, hZ1, hmk1, hby1⟩ := made_hid 65537 (by omega)
  have hmk1 : ∀ w : World, (Instr.makeSlice 26 (.int .i64 65537) (.int .i64 65537)).run Try.prog w = .ok (.slice (some ⟨w.heap.size, 0, none⟩) 65537 65537) (w.alloc (.cells L1 5)) := hmk1
  clear hZ1 hby1
  have HN : Hid (NoCalls w (w.heap.size ≤ ·) key 55 65537 X) := no_calls w _ key HX.out (.inr rfl) (.inl ⟨rfl, .inr h64⟩)
  have HK : Hid (key.size ≤ 200) := Lib.hid hk
  obtain ⟨hke1, hke2⟩ := key_ne (show 0 < key.size by omega)
  have h200 : ¬ (200 < key.size) := by omega
  clear hk
  go_enter Try.func3, Try.ntmps3
  go_wp2_with (first
    | (go_at_call 9; refine (HN.out.put1 _ _ _ _ HB4.out).mono ?_; rintro e w5 ⟨rfl, hbl5⟩; have HB5 := Lib.hid (HB4.out.below hbl5); have Hb5 := Lib.hid (Hb4.out.below hbl5); have c5 := Hb5.out.cell; clear hbl5)
    | (go_at_call 10; refine (HN.out.begin1 _ _ _ HB3.out).mono ?_; rintro e w4 ⟨rfl, hbl4⟩; have HB4 := Lib.hid (HB3.out.below hbl4); have Hb4 := Lib.hid (Hb3.out.below hbl4); have c4 := Hb4.out.cell; clear hbl4)
    | (go_at_call 10; refine (HN.out.begin0 _ _ _ HB2.out).mono ?_; rintro e w3 ⟨rfl, hB3, hO3⟩; have HB3 := Lib.hid hB3; have Hb3 := Lib.hid (hO3.bench Hb2.out); have c3 := Hb3.out.cell; clear hB3 hO3)
    | (go_at_call 9; refine (HN.out.put0 _ _ _ _ (HB1.out _)).mono ?_; rintro e w2 ⟨rfl, hbl2⟩; have HB2 := Lib.hid ((HB1.out _).below hbl2); have Hb2 := Lib.hid ((Hb1.out _).below hbl2); have c2 := Hb2.out.cell; clear hbl2)
    | (go_at_call 7; refine HL.out.mono ?_; rintro e w1 ⟨g, s, r, rfl, hB1, hb1, hg1⟩; have HB1 := Lib.hid (fun o => hB1.below ((Below.refl _ w1).alloc (Nat.le_refl _) o)); have c1 : ∀ o, (w1.alloc o).cell? ⟨g, 1, none⟩ = some (.pointer (some ⟨s, 0, none⟩)) := fun o => (hb1.below ((Below.refl _ w1).alloc (Nat.le_refl _) o)).cell; have Hb1 := Lib.hid (fun o => hb1.below ((Below.refl _ w1).alloc (Nat.le_refl _) o)); clear hB1 hb1 hg1)
    | (go_at_call 11; refine (none_calls (by omega) (by omega) HB5.out HX.out).mono ?_; rintro e w6 ⟨rfl, ⟨X6, hX6, hB6⟩, hO6⟩; have HB6 := Lib.hid hB6; have HX6 := Lib.hid hX6; have Hb6 := Lib.hid (hO6.bench Hb5.out); have c6 := Hb6.out.cell; clear hB6 hX6 hO6)
    | (go_at_call 12; refine (none_get (by omega) (by omega) HB6.out HX6.out key HK.out).mono ?_; rintro e w7 ⟨v7, rfl, hg7, hbl7⟩; have HB7 := Lib.hid (HB6.out.below hbl7); clear hg7 hbl7)
    | (go_at_call 8; refine (awake_calls _).mono ?_; rintro e w8 ⟨rfl, hb8⟩; have HB8 := Lib.hid (HB7.out.below hb8); clear hb8))
  go_ret
  exact ⟨rfl, HB8.out.kept⟩

set_option maxRecDepth 100000 in
set_option maxHeartbeats 8000000 in
theorem edges_empty_true (w : World) : Calls Try.prog 3 #[.string ⟨#[]⟩, .bool true] w fun e w' => e = .returned (.bool true) ∧ Below w.heap.size w w' := by
  have HL := Lib.hid (laid_calls (P := (w.heap.size ≤ ·)) (n := 300) w (by omega) (by omega) (fun _ h => h))
  have hX := NewSto.made (n := 300) (by omega)
  obtain ⟨X, hXe⟩ : ∃ X, X = (Dsk.new 300).sto := ⟨_, rfl⟩
  rw [← hXe] at HL hX
  have HX := Lib.hid hX
  clear hX hXe
  obtain ⟨L1, Z1, hZ1, hmk1, hby1⟩ := made_hid 65537 (by omega)
  have hmk1 : ∀ w : World, (Instr.makeSlice 26 (.int .i64 65537) (.int .i64 65537)).run Try.prog w = .ok (.slice (some ⟨w.heap.size, 0, none⟩) 65537 65537) (w.alloc (.cells L1 5)) := hmk1
  clear hZ1 hby1
  have HN : Hid (NoCalls w (w.heap.size ≤ ·) ⟨#[]⟩ 55 65537 X) := no_calls w _ ⟨#[]⟩ HX.out (.inr rfl) (.inl ⟨rfl, .inl rfl⟩)
  have HK : Hid ((⟨#[]⟩ : ByteArray).size ≤ 200) := Lib.hid (by decide)
  go_enter Try.func3, Try.ntmps3
  go_wp2_with (first
    | (go_at_call 9; refine (HN.out.put1 _ _ _ _ HB4.out).mono ?_; rintro e w5 ⟨rfl, hbl5⟩; have HB5 := Lib.hid (HB4.out.below hbl5); have Hb5 := Lib.hid (Hb4.out.below hbl5); have c5 := Hb5.out.cell; clear hbl5)
    | (go_at_call 10; refine (HN.out.begin1 _ _ _ HB3.out).mono ?_; rintro e w4 ⟨rfl, hbl4⟩; have HB4 := Lib.hid (HB3.out.below hbl4); have Hb4 := Lib.hid (Hb3.out.below hbl4); have c4 := Hb4.out.cell; clear hbl4)
    | (go_at_call 10; refine (HN.out.begin0 _ _ _ HB2.out).mono ?_; rintro e w3 ⟨rfl, hB3, hO3⟩; have HB3 := Lib.hid hB3; have Hb3 := Lib.hid (hO3.bench Hb2.out); have c3 := Hb3.out.cell; clear hB3 hO3)
    | (go_at_call 9; refine (HN.out.put0 _ _ _ _ (HB1.out _)).mono ?_; rintro e w2 ⟨rfl, hbl2⟩; have HB2 := Lib.hid ((HB1.out _).below hbl2); have Hb2 := Lib.hid ((Hb1.out _).below hbl2); have c2 := Hb2.out.cell; clear hbl2)
    | (go_at_call 7; refine HL.out.mono ?_; rintro e w1 ⟨g, s, r, rfl, hB1, hb1, hg1⟩; have HB1 := Lib.hid (fun o => hB1.below ((Below.refl _ w1).alloc (Nat.le_refl _) o)); have c1 : ∀ o, (w1.alloc o).cell? ⟨g, 1, none⟩ = some (.pointer (some ⟨s, 0, none⟩)) := fun o => (hb1.below ((Below.refl _ w1).alloc (Nat.le_refl _) o)).cell; have Hb1 := Lib.hid (fun o => hb1.below ((Below.refl _ w1).alloc (Nat.le_refl _) o)); clear hB1 hb1 hg1)
    | (go_at_call 11; refine (none_calls (by omega) (by omega) HB5.out HX.out).mono ?_; rintro e w6 ⟨rfl, ⟨X6, hX6, hB6⟩, hO6⟩; have HB6 := Lib.hid hB6; have HX6 := Lib.hid hX6; have Hb6 := Lib.hid (hO6.bench Hb5.out); have c6 := Hb6.out.cell; clear hB6 hX6 hO6)
    | (go_at_call 12; refine (none_get (by omega) (by omega) HB6.out HX6.out ⟨#[]⟩ HK.out).mono ?_; rintro e w7 ⟨v7, rfl, hg7, hbl7⟩; have HB7 := Lib.hid (HB6.out.below hbl7); clear hg7 hbl7)
    | (go_at_call 8; refine (awake_calls _).mono ?_; rintro e w8 ⟨rfl, hb8⟩; have HB8 := Lib.hid (HB7.out.below hb8); clear hb8))
  go_ret
  exact ⟨rfl, HB8.out.kept⟩

set_option maxRecDepth 100000 in
set_option maxHeartbeats 8000000 in
theorem edges_big (w : World) (key : ByteArray) (h0 : 0 < key.size) (h64 : key.size ≤ 64) : Calls Try.prog 3 #[.string key, .bool true] w fun e w' => e = .returned (.bool true) ∧ Below w.heap.size w w' := by
  have HL := Lib.hid (laid_calls (P := (w.heap.size ≤ ·)) (n := 300) w (by omega) (by omega) (fun _ h => h))
  have hX := NewSto.made (n := 300) (by omega)
  obtain ⟨X, hXe⟩ : ∃ X, X = (Dsk.new 300).sto := ⟨_, rfl⟩
  rw [← hXe] at HL hX
  have HX := Lib.hid hX
  clear hX hXe
  obtain ⟨L1, Z1, hZ1, hmk1, hby1⟩ := made_hid 65537 (by omega)
  have hmk1 : ∀ w : World, (Instr.makeSlice 26 (.int .i64 65537) (.int .i64 65537)).run Try.prog w = .ok (.slice (some ⟨w.heap.size, 0, none⟩) 65537 65537) (w.alloc (.cells L1 5)) := hmk1
  clear hZ1 hby1
  have HN : Hid (NoCalls w (w.heap.size ≤ ·) key 4 65537 X) := no_calls w _ key HX.out (.inr rfl) (.inr ⟨rfl, h0, h64, rfl⟩)
  have HK : Hid (key.size ≤ 200) := Lib.hid (by omega)
  obtain ⟨hke1, hke2⟩ := key_ne h0
  have h200 : ¬ (200 < key.size) := by omega
  have h65 : ¬ (64 < key.size) := by omega
  go_enter Try.func3, Try.ntmps3
  go_wp2_with (first
    | (go_at_call 9; refine (HN.out.put1 _ _ _ _ HB4.out).mono ?_; rintro e w5 ⟨rfl, hbl5⟩; have HB5 := Lib.hid (HB4.out.below hbl5); have Hb5 := Lib.hid (Hb4.out.below hbl5); have c5 := Hb5.out.cell; clear hbl5)
    | (go_at_call 10; refine (HN.out.begin1 _ _ _ HB3.out).mono ?_; rintro e w4 ⟨rfl, hbl4⟩; have HB4 := Lib.hid (HB3.out.below hbl4); have Hb4 := Lib.hid (Hb3.out.below hbl4); have c4 := Hb4.out.cell; clear hbl4)
    | (go_at_call 10; refine (HN.out.begin0 _ _ _ HB2.out).mono ?_; rintro e w3 ⟨rfl, hB3, hO3⟩; have HB3 := Lib.hid hB3; have Hb3 := Lib.hid (hO3.bench Hb2.out); have c3 := Hb3.out.cell; clear hB3 hO3)
    | (go_at_call 9; refine (HN.out.put0 _ _ _ _ (HB1.out _)).mono ?_; rintro e w2 ⟨rfl, hbl2⟩; have HB2 := Lib.hid ((HB1.out _).below hbl2); have Hb2 := Lib.hid ((Hb1.out _).below hbl2); have c2 := Hb2.out.cell; clear hbl2)
    | (go_at_call 7; refine HL.out.mono ?_; rintro e w1 ⟨g, s, r, rfl, hB1, hb1, hg1⟩; have HB1 := Lib.hid (fun o => hB1.below ((Below.refl _ w1).alloc (Nat.le_refl _) o)); have c1 : ∀ o, (w1.alloc o).cell? ⟨g, 1, none⟩ = some (.pointer (some ⟨s, 0, none⟩)) := fun o => (hb1.below ((Below.refl _ w1).alloc (Nat.le_refl _) o)).cell; have Hb1 := Lib.hid (fun o => hb1.below ((Below.refl _ w1).alloc (Nat.le_refl _) o)); clear hB1 hb1 hg1)
    | (go_at_call 11; refine (none_calls (by omega) (by omega) HB5.out HX.out).mono ?_; rintro e w6 ⟨rfl, ⟨X6, hX6, hB6⟩, hO6⟩; have HB6 := Lib.hid hB6; have HX6 := Lib.hid hX6; have Hb6 := Lib.hid (hO6.bench Hb5.out); have c6 := Hb6.out.cell; clear hB6 hX6 hO6)
    | (go_at_call 12; refine (none_get (by omega) (by omega) HB6.out HX6.out key HK.out).mono ?_; rintro e w7 ⟨v7, rfl, hg7, hbl7⟩; have HB7 := Lib.hid (HB6.out.below hbl7); clear hg7 hbl7)
    | (go_at_call 8; refine (awake_calls _).mono ?_; rintro e w8 ⟨rfl, hb8⟩; have HB8 := Lib.hid (HB7.out.below hb8); clear hb8))
  go_ret
  exact ⟨rfl, HB8.out.kept⟩

end Go.Proofs.Ytbgiklkpinflaaa

namespace Go.Proofs.Ytbgiklkpinflaaa
open Go.RowKit Go.Shelf Go.Maps
attribute [local go_sem ↓] Go.wp_at_zero Go.wp_at_succ

set_option maxRecDepth 100000 in
set_option maxHeartbeats 8000000 in
theorem edges_yes (w : World) (key : ByteArray) (h0 : 0 < key.size) (h64 : key.size ≤ 64) : Calls Try.prog 3 #[.string key, .bool false] w fun e w' => e = .returned (.bool true) ∧ Below w.heap.size w w' := by
  have HL := Lib.hid (laid_calls (P := (w.heap.size ≤ ·)) (n := 300) w (by omega) (by omega) (fun _ h => h))
  have hX := NewSto.made (n := 300) (by omega)
  obtain ⟨X, hXe⟩ : ∃ X, X = (Dsk.new 300).sto := ⟨_, rfl⟩
  rw [← hXe] at HL hX
  have HX := Lib.hid hX
  obtain ⟨L1, Z, hZ, hmk1, hby1⟩ := made_hid 65536 (by omega)
  have hmk1 : ∀ w : World, (Instr.makeSlice 26 (.int .i64 65536) (.int .i64 65536)).run Try.prog w = .ok (.slice (some ⟨w.heap.size, 0, none⟩) 65536 65536) (w.alloc (.cells L1 5)) := hmk1
  have hby1 : ∀ w : World, BytesAt (w.heap.size ≤ ·) (w.alloc (.cells L1 5)) (.slice (some ⟨w.heap.size, 0, none⟩) 65536 65536) Z := hby1
  have HBY := Lib.hid hby1
  have HZ := Lib.hid hZ
  have hn1 : need Z.length = 274 := by rw [hZ]; rfl
  have hn2 : need (8 + key.size + 2 * 274) = 3 := by unfold need; omega
  have HC : Hid (OneCalls w (w.heap.size ≤ ·) 300 key Z) := one_calls w _ (by omega) (by omega) h0 h64 (by omega) (by rw [hn1, hn2]; omega)
  have hfr : (((300 : Nat) : Int) - 2 - (need Z.length : Nat) - (need (8 + key.size + 2 * need Z.length) : Nat)) = 21 := by rw [hn1, hn2]; rfl
  have HFR := Lib.hid hfr
  have HN : Hid (NoCalls w (w.heap.size ≤ ·) key 4 65537 X) := no_calls w _ key HX.out (.inr rfl) (.inr ⟨rfl, h0, h64, rfl⟩)
  obtain ⟨hke1, hke2⟩ := key_ne h0
  have h200 : ¬ (200 < key.size) := by omega
  have h65 : ¬ (64 < key.size) := by omega
  clear hX hXe hby1 hZ hn1 hn2 hfr
  go_enter Try.func3, Try.ntmps3
  go_wp2_with (first
    | (go_at_call 9; refine (HC.out.put _ _ _ _ _ HB4.out HX.out ⟨_, HV4.out⟩).mono ?_; rintro e w5 ⟨rfl, hB5, hO5⟩; have HB5 := Lib.hid hB5; have Hb5 := Lib.hid (hO5.bench Hb4.out); have c5 := Hb5.out.cell; clear hB5 hO5)
    | (go_at_call 10; refine (HN.out.begin1 _ _ _ HB3.out).mono ?_; rintro e w4 ⟨rfl, hbl4⟩; have HB4 := Lib.hid (HB3.out.below hbl4); have Hb4 := Lib.hid (Hb3.out.below hbl4); have HV4 := Lib.hid ((Others.of_below hbl4).bytes HV3.out); have c4 := Hb4.out.cell; clear hbl4)
    | (go_at_call 10; refine (HN.out.begin0 _ _ _ HB2.out).mono ?_; rintro e w3 ⟨rfl, hB3, hO3⟩; have HB3 := Lib.hid hB3; have Hb3 := Lib.hid (hO3.bench Hb2.out); have HV3 := Lib.hid (hO3.bytes HV2.out); have c3 := Hb3.out.cell; clear hB3 hO3)
    | (go_at_call 9; refine (HN.out.put0 _ _ _ _ (HB1.out _)).mono ?_; rintro e w2 ⟨rfl, hbl2⟩; have HB2 := Lib.hid ((HB1.out _).below hbl2); have Hb2 := Lib.hid ((Hb1.out _).below hbl2); have HV2 := Lib.hid ((Others.of_below hbl2).bytes (HBY.out w1)); have c2 := Hb2.out.cell; clear hbl2)
    | (go_at_call 7; refine HL.out.mono ?_; rintro e w1 ⟨g, s, r, rfl, hB1, hb1, hg1⟩; have HB1 := Lib.hid (fun o => hB1.below ((Below.refl _ w1).alloc (Nat.le_refl _) o)); have c1 : ∀ o, (w1.alloc o).cell? ⟨g, 1, none⟩ = some (.pointer (some ⟨s, 0, none⟩)) := fun o => (hb1.below ((Below.refl _ w1).alloc (Nat.le_refl _) o)).cell; have Hb1 := Lib.hid (fun o => hb1.below ((Below.refl _ w1).alloc (Nat.le_refl _) o)); clear hB1 hb1 hg1)
    | (go_at_call 11; refine (HC.out.commit _ _ _ _ HB5.out HX.out).mono ?_; rintro e w6 ⟨rfl, ⟨X6, hX6, hd6, hB6⟩, hO6⟩; have HB6 := Lib.hid hB6; have HX6 := Lib.hid hX6; have HD6 := Lib.hid hd6; have Hb6 := Lib.hid (hO6.bench Hb5.out); have c6 := Hb6.out.cell; clear hB6 hX6 hd6 hO6)
    | (go_at_call 12; refine (HC.out.get _ _ _ _ _ HB6.out HX6.out HD6.out).mono ?_; rintro e w7 ⟨v7, rfl, hg7, hbl7⟩; obtain ⟨A7, k7, rfl⟩ := got_slice hg7; rw [HZ.out]; have HB7 := Lib.hid (HB6.out.below hbl7); have Hb7 := Lib.hid (Hb6.out.below hbl7); have c7 := Hb7.out.cell; clear hg7 hbl7)
    | (go_at_call 13; refine (HC.out.free _ _ _ _ _ HB7.out HX6.out HD6.out).mono ?_; rw [HFR.out]; rintro e w8 ⟨rfl, hbl8⟩; have HB8 := Lib.hid (HB7.out.below hbl8); clear hbl8)
    | (go_at_call 8; refine (awake_calls _).mono ?_; rintro e w9 ⟨rfl, hb9⟩; have HB9 := Lib.hid (HB8.out.below hb9); clear hb9))
  go_ret
  exact ⟨rfl, HB9.out.kept⟩

theorem edges_calls (w : World) (key : ByteArray) (over : Bool) : Calls Try.prog 3 #[.string key, .bool over] w fun e w' => e = .returned (.bool true) ∧ Below w.heap.size w w' := by
  by_cases h1 : 200 < key.size
  · exact edges_long w key over h1
  · by_cases h2 : 64 < key.size
    · cases over
      · exact edges_long_false w key (by omega) h2
      · exact edges_long_true w key (by omega) h2
    · by_cases h3 : 0 < key.size
      · cases over
        · exact edges_yes w key h3 (by omega)
        · exact edges_big w key h3 (by omega)
      · have e : key = ⟨#[]⟩ := by
          have h4 : key.data.size = 0 := by
            have : key.data.size = key.size := rfl
            omega
          cases key with
          | mk d =>
            congr 1
            exact Array.eq_empty_of_size_eq_zero h4
        rw [e]
        cases over
        · exact edges_empty_false w
        · exact edges_empty_true w

end Go.Proofs.Ytbgiklkpinflaaa
