/- awake. laid. -/
import Derived.Test.YtbgiklkpinflaaaGreatUp

namespace Go.Proofs.YtbgiklkpinflaaaGreat
open Go.RowKit Go.Shelf Go.Maps
attribute [local go_sem ↓] Go.wp_at_zero Go.wp_at_succ

/-- The key "a". -/
def keyA : ByteArray := ⟨#[97]⟩
theorem keyA_list : keyA.data.toList = [97] := rfl
/-- A new store of n blocks, with one note and its commit: all of its calls. -/
structure OneCalls (w0 : World) (P : Nat → Prop) (n : Nat) (key : ByteArray) (l : List UInt8) : Prop where
  begin_ : ∀ w s d X, Box P w0 w s d X → NewSto X n → Calls Tryz.prog 32 #[.pointer (some ⟨s, 0, none⟩)] w fun e w' => e = .returned (.int .i64 0) ∧ Box P w0 w' s d X.begun ∧ Others w w'
  put : ∀ w s d X v, Box P w0 w s d X.begun → NewSto X n → (∃ Q, BytesAt Q w v l) → Calls Tryz.prog 49 #[.pointer (some ⟨s, 0, none⟩), .string key, v] w fun e w' => e = .returned (.int .i64 0) ∧ Box P w0 w' s d (X.begun.noted key.data.toList l) ∧ Others w w'
  commit : ∀ w s d X, Box P w0 w s d (X.begun.noted key.data.toList l) → NewSto X n → Calls Tryz.prog 21 #[.pointer (some ⟨s, 0, none⟩)] w fun e w' => e = .returned (.int .i64 0) ∧ (∃ X', OneDone (X.begun.noted key.data.toList l) X' n key.data.toList l ∧ isDead X'.life X'.disk = false ∧ Box P w0 w' s d X') ∧ Others w w'
  get : ∀ w s d Y X, Box P w0 w s d X → OneDone Y X n key.data.toList l → isDead X.life X.disk = false → Calls Tryz.prog 50 #[.pointer (some ⟨s, 0, none⟩), .string key] w (FetchPost w (0, l))
  free : ∀ w s d Y X, Box P w0 w s d X → OneDone Y X n key.data.toList l → isDead X.life X.disk = false → Calls Tryz.prog 19 #[.pointer (some ⟨s, 0, none⟩)] w fun e w' => e = .returned (.int .i64 ((n : Int) - 2 - need l.length - need (8 + key.size + 2 * need l.length))) ∧ Below w.heap.size w w'
  generation : ∀ w s d Y X, Box P w0 w s d X → OneDone Y X n key.data.toList l → isDead X.life X.disk = false → Calls Tryz.prog 38 #[.pointer (some ⟨s, 0, none⟩)] w fun e w' => e = .returned (.int .i64 1) ∧ Below w.heap.size w w'
theorem one_calls (w0 : World) (P : Nat → Prop) {n : Nat} {key : ByteArray} {l : List UInt8} (h4 : 4 ≤ n) (h5 : n ≤ 1024) (hk0 : 0 < key.size) (hk1 : key.size ≤ 64) (hl : l.length ≤ 65536) (hr : need l.length + need (8 + key.size + 2 * need l.length) ≤ n - 3) : OneCalls w0 P n key l := by
  have hks : key.data.toList.length = key.size := Array.length_toList
  refine ⟨?_, ?_, ?_, ?_, ?_, ?_⟩
  · intro w s d X hB hX
    exact hB.begin_ hX.dead hX.opened
  · rintro w s d X v hB hX ⟨Q, hv⟩
    refine hB.put (n := n) (X := X.begun) hX.dead rfl ?_ Srt.nil (by simp [Sto.begun]) (by simp [Sto.begun]) key hk0 hk1 v l hv hl (.inr ?_)
    · rw [show X.begun.now = .zero from hX.now]
      exact StOk.zero h4 h5
    · rw [show X.begun.now = .zero from hX.now]
      simp [Sto.begun, St.zero, newNotes]
  · intro w s d X hB hX
    have h1 := hX.one key.data.toList l
    obtain ⟨X', hc, hdone⟩ := one_commit h1 h4 (by rw [hks]; exact hr)
    have hd : isDead (X.begun.noted key.data.toList l).life (X.begun.noted key.data.toList l).disk = false := hX.dead
    have hz := StOk.zero h4 h5
    refine (hB.commit hd rfl (by rw [h1.now, h1.len]; exact hz) (by rw [h1.pins]; simp) (by rw [h1.pins]; simp) (by rw [h1.notes]; exact List.pairwise_singleton _ _) (by rw [h1.gone]; exact Srt.nil) ?_ (by rw [h1.notes]; simp) ?_ ?_).mono ?_
    · rw [h1.notes]
      intro x hx
      rw [List.mem_singleton] at hx
      subst hx
      exact ⟨by rw [hks]; exact hk1, hl⟩
    · intro st' hs
      rw [h1.now, h1.notes, h1.gone, h1.pins, h1.len, one_next h4 (by rw [hks]; exact hr)] at hs
      injection hs with hs
      rw [← hs, h1.len]
      exact one_ok h4 h5 (by rw [hks]; exact hk0) (by rw [hks]; exact hk1) hl (by rw [hks]; exact hr)
    · have e1 : (X.begun.noted key.data.toList l).disk.life = 0 := hX.dlife
      have e2 : (X.begun.noted key.data.toList l).disk.pending = [] := hX.pend
      exact ⟨by rw [e1]; omega, by rw [e2]; simp⟩
    · rintro e w' ⟨rfl, hB', hO⟩
      rw [hc] at hB'
      exact ⟨by rw [hc], ⟨X', hdone, hdone.dead hd, hB'⟩, hO⟩
  · intro w s d Y X hB hX hd
    have := hB.get (by rw [hX.now, hX.len]; exact one_ok h4 h5 (by rw [hks]; exact hk0) (by rw [hks]; exact hk1) hl (by rw [hks]; exact hr)) (by rw [hX.pend]; simp) key (by unfold maxLen; omega)
    unfold getOf at this
    rw [hd, hX.get] at this
    exact this
  · intro w s d Y X hB hX hd
    have := hB.free (by rw [hX.now, hX.len]; exact one_ok h4 h5 (by rw [hks]; exact hk0) (by rw [hks]; exact hk1) hl (by rw [hks]; exact hr)) (by rw [hX.pins]; simp) (by rw [hX.pins]; simp)
    rw [hd, hX.now, hX.pins, hX.len] at this
    refine this.mono ?_
    rintro e w' ⟨rfl, hb⟩
    refine ⟨ret_int ?_, hb⟩
    have hf := one_free (n := n) (k := key.data.toList) (l := l) h4 (by rw [hks]; exact hr)
    rw [hks] at hf
    simp only [Bool.false_eq_true, if_false]
    omega
  · intro w s d Y X hB hX hd
    have := hB.generation
    rw [hd, hX.now] at this
    exact this

set_option maxRecDepth 100000 in
set_option maxHeartbeats 4000000 in
theorem awake_calls (w : World) : Calls Tryz.prog 12 #[] w fun e w' => e = .returned (.bool true) ∧ Below w.heap.size w w' := by
  have hN := new_made (P := (w.heap.size ≤ ·)) (n := 10) w (by omega) (by omega) (fun _ h => h)
  have hC := one_calls w (w.heap.size ≤ ·) (n := 10) (key := keyA) (l := List.replicate 241 0) (by omega) (by omega) (by decide) (by decide) (by decide) (by decide)
  have hX := NewSto.made (n := 10) (by omega)
  obtain ⟨X, hXe⟩ : ∃ X, X = (Dsk.new 10).sto := ⟨_, rfl⟩
  rw [← hXe] at hN hX
  have HN := Lib.hid hN
  have HC := Lib.hid hC
  have HX := Lib.hid hX
  have hmk : ∀ w : World, (Instr.makeSlice 89 (.int .i64 241) (.int .i64 241)).run Tryz.prog w = .ok (.slice (some ⟨w.heap.size, 0, none⟩) 241 241) (w.alloc (.cells ((List.replicate 241 (0 : UInt8)).map bv).toArray 5)) := fun w => Tryz.makeU8 241 (by omega) w
  clear hN hC hX hXe
  go_enter Tryz.func12, Tryz.ntmps12
  go_wp2_with (first
    | (go_at_call 48; refine HN.out.mono ?_; rintro e w1 ⟨rfl, hb1, hF1⟩; have HF1 := Lib.hid hF1; clear hb1 hF1)
    | (go_at_call 43; refine HF1.out.mono ?_; rintro e w2 ⟨s, rfl, hB2⟩; have HB2 := Lib.hid hB2; clear hB2)
    | (go_at_call 32; refine (HC.out.begin_ _ _ _ _ HB2.out HX.out).mono ?_; rintro e w3 ⟨rfl, hB3, hO3⟩; have HB3 := Lib.hid hB3; clear hB3 hO3)
    | (go_at_call 49; refine (HC.out.put _ _ _ _ _ (HB3.out.below (Below.alloc (Below.refl _ _) (Nat.le_refl _) _)) HX.out ⟨_, made_bytes 241 (by omega) _⟩).mono ?_; rintro e w4 ⟨rfl, hB4, hO4⟩; have HB4 := Lib.hid hB4; clear hB4 hO4)
    | (go_at_call 21; refine (HC.out.commit _ _ _ _ HB4.out HX.out).mono ?_; rintro e w5 ⟨rfl, ⟨X5, hX5, hd5, hB5⟩, hO5⟩; have HB5 := Lib.hid hB5; have HX5 := Lib.hid hX5; have HD5 := Lib.hid hd5; clear hB5 hO5 hX5 hd5)
    | (go_at_call 50; refine (HC.out.get _ _ _ _ _ HB5.out HX5.out HD5.out).mono ?_; rintro e w6 ⟨v6, rfl, hg6, hb6⟩; obtain ⟨A6, c6, rfl⟩ := got_slice hg6; rw [show (List.replicate 241 (0 : UInt8)).length = 241 from List.length_replicate]; have HB6 := Lib.hid (HB5.out.below hb6); clear hg6 hb6)
    | (go_at_call 19; refine (HC.out.free _ _ _ _ _ HB6.out HX5.out HD5.out).mono ?_; rintro e w7 ⟨rfl, hb7⟩; have HB7 := Lib.hid (HB6.out.below hb7); clear hb7)
    | (go_at_call 38; refine (HC.out.generation _ _ _ _ _ HB7.out HX5.out HD5.out).mono ?_; rintro e w8 ⟨rfl, hb8⟩; have HB8 := Lib.hid (HB7.out.below hb8); clear hb8))
  go_ret
  exact ⟨rfl, HB8.out.kept⟩

end Go.Proofs.YtbgiklkpinflaaaGreat

namespace Go.Proofs.YtbgiklkpinflaaaGreat
open Go.RowKit Go.Shelf Go.Maps
attribute [local go_sem ↓] Go.wp_at_zero Go.wp_at_succ

set_option maxRecDepth 100000 in
set_option maxHeartbeats 4000000 in
theorem refFormat_calls (n : Int) (w : World) : Calls Tryz.prog 44 #[.int .i64 n] w fun e w' => e = .returned (.pointer (some ⟨w.heap.size, 0, none⟩)) ∧ Below w.heap.size w w' := by
  go_enter Tryz.func44, Tryz.ntmps44
  go_wp2
  go_ret
  exact ⟨rfl, (Below.refl _ _).alloc (Nat.le_refl _) _⟩

/-- The bench in block g: the disk, the store, the reference. -/
def BenchAt (w : World) (g d s r : Nat) (pv : Value) : Prop := Blk w g 39 #[.pointer (some ⟨d, 0, none⟩), .pointer (some ⟨s, 0, none⟩), .pointer (some ⟨r, 0, none⟩), pv]
theorem Others.bench {w w' : World} (h : Others w w') {g d s r : Nat} {pv : Value} (hb : BenchAt w g d s r pv) : BenchAt w' g d s r pv := h.2 _ _ _ hb (by decide) (by decide) (by decide) (by decide) (by decide)
theorem BenchAt.below {w w' : World} {g d s r : Nat} {pv : Value} (hb : BenchAt w g d s r pv) (h : Below w.heap.size w w') : BenchAt w' g d s r pv := (Others.of_below h).bench hb
theorem BenchAt.cell {w : World} {g d s r : Nat} {pv : Value} (hb : BenchAt w g d s r pv) : w.cell? ⟨g, 1, none⟩ = some (.pointer (some ⟨s, 0, none⟩)) := Blk.cell hb 1

set_option maxRecDepth 100000 in
set_option maxHeartbeats 4000000 in
theorem laid_calls {P : Nat → Prop} {n : Nat} (w : World) (h1 : 4 ≤ n) (h2 : n ≤ 1024) (hP : ∀ k, w.heap.size ≤ k → P k) :
    Calls Tryz.prog 11 #[.int .i64 (n : Int)] w fun e w' => ∃ g s r, e = .returned (.tuple #[.pointer (some ⟨g, 0, none⟩), .bool true]) ∧ Box P w w' s w.heap.size (Dsk.new n).sto ∧ BenchAt w' g w.heap.size s r (.slice none 0 0) ∧ w.heap.size ≤ g := by
  have HN := Lib.hid (new_made (P := P) (n := n) w h1 h2 hP)
  go_enter Tryz.func11, Tryz.ntmps11
  go_wp2_with (first
    | (go_at_call 48; refine HN.out.mono ?_; rintro e w1 ⟨rfl, hb1, hF1⟩; have HF1 := Lib.hid hF1; clear hb1 hF1)
    | (go_at_call 43; refine HF1.out.mono ?_; rintro e w2 ⟨s, rfl, hB2⟩; have HB2 := Lib.hid hB2; clear hB2)
    | (go_at_call 44; refine (refFormat_calls n _).mono ?_; rintro e w3 ⟨rfl, hb3⟩; have HB3 := Lib.hid (HB2.out.below hb3); clear hb3))
  go_ret2
  refine ⟨_, s, _, rfl, HB3.out.below ((Below.refl _ _).alloc (Nat.le_refl _) _), Blk.new _ _ _, ?_⟩
  exact HB3.out.1

end Go.Proofs.YtbgiklkpinflaaaGreat
