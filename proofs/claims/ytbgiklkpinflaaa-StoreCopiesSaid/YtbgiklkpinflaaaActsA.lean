/- block: the bytes of a call for a disk. alike: the disk and the reference's answer alike. -/
import Derived.Test.YtbgiklkpinflaaaSpoilB

namespace Go.Proofs.Ytbgiklkpinflaaa
open Go.RowKit Go.Shelf
attribute [local go_sem ↓] Go.wp_at_zero Go.wp_at_succ

/-- The cells of a call for a disk. -/
def actCells (kd : Int) (i t : Int) (y : Int) (sh : Bool) (kv : Value) : Array Value := #[.int .u8 kd, .int .i64 i, .int .i64 t, .int .u8 y, .bool sh, kv]

/-- Bytes are being set in the block behind the call's copy. -/
def Filling (w : World) (A : Array Value) (n : Nat) (wr : World) : Prop :=
  (∃ l : List UInt8, l.length = n ∧ Blk wr (w.heap.size + 1) 5 (l.map bv).toArray) ∧ Blk wr w.heap.size 58 A ∧ Below w.heap.size w wr
theorem Filling.set {w wr : World} {A : Array Value} {n k : Nat} (h : Filling w A n wr) {e : Int} (h0 : 0 ≤ e) (h1 : e < 256) : Filling w A n (wr.setCell ⟨w.heap.size + 1, k, none⟩ (.int .u8 e)) := by
  obtain ⟨⟨l, hl, hb⟩, hA, hB⟩ := h
  refine ⟨⟨l.set k (UInt8.ofNat e.toNat), by rw [List.length_set]; exact hl, ?_⟩, hA.far (by simp) _, hB.setCell (p := ⟨w.heap.size + 1, k, none⟩) (by simp) _⟩
  have := hb.set_ k (.int .u8 e)
  rw [← bv_ofNat h0 h1] at this ⊢
  rw [List.map_set]
  simpa using this
theorem Filling.cell {w wr : World} {A : Array Value} {n k : Nat} (h : Filling w A n wr) (hk : k < n) : ∃ v, wr.cell? ⟨w.heap.size + 1, k, none⟩ = some v := by
  obtain ⟨⟨l, hl, hb⟩, _, _⟩ := h
  exact ⟨_, (hb.cell k).trans (Array.getElem?_eq_getElem (by simpa [hl] using hk))⟩
theorem Filling.frozen {w wr : World} {A : Array Value} {n : Nat} (h : Filling w A n wr) (k : Nat) : wr.frozen? ⟨w.heap.size + 1, k, none⟩ = false := by
  obtain ⟨⟨l, hl, hb⟩, _, _⟩ := h
  exact hb.frozen k
theorem Filling.start (w : World) (A : Array Value) (n : Nat) : Filling w A n ((w.alloc (.cells A 58)).alloc (.cells ((List.replicate n (0 : UInt8)).map bv).toArray 5)) := by
  refine ⟨⟨List.replicate n 0, List.length_replicate, ?_⟩, (Blk.new w _ A).alloc _, ((Below.refl _ w).alloc (Nat.le_refl _) _).alloc (by simp) _⟩
  have := Blk.new (w.alloc (.cells A 58)) 5 ((List.replicate n (0 : UInt8)).map bv).toArray
  rwa [World.size_alloc] at this
theorem Filling.end_ {w wr : World} {A : Array Value} {n : Nat} (h : Filling w A n wr) (hn : n ≤ 1000000) : ∃ l : List UInt8, l.length = n ∧ BytesAt (w.heap.size ≤ ·) wr (.slice (some ⟨w.heap.size + 1, 0, none⟩) n n) l := by
  obtain ⟨⟨l, hl, hb⟩, _, _⟩ := h
  refine ⟨l, hl, _, n, _, by rw [hl], by simp, hb, by omega, by unfold maxLen; omega, by simp [hl], ?_⟩
  show (l.map bv).take l.length = l.map bv
  exact List.take_of_length_le (by rw [List.length_map]; exact Nat.le_refl _)

set_option maxRecDepth 100000 in
set_option maxHeartbeats 4000000 in
theorem blockOf_calls (w : World) (kd i0 t y : Int) (sh : Bool) (kv : Value) :
    Calls Try.prog 42 #[.agg (actCells kd i0 t y sh kv)] w fun e w' => ∃ v l, e = .returned v ∧ BytesAt (w.heap.size ≤ ·) w' v l ∧ Below w.heap.size w w' := by
  obtain ⟨m, hm, hm2⟩ : ∃ m : Nat, m = (if sh then 255 else 256) ∧ m ≤ 256 := ⟨_, rfl, by split <;> omega⟩
  obtain ⟨L, hL⟩ : ∃ L : Array Value, L = ((List.replicate m (0 : UInt8)).map bv).toArray := ⟨_, rfl⟩
  have hmk : ∀ w : World, (Instr.makeSlice 26 (.int .i64 (m : Int)) (.int .i64 (m : Int))).run Try.prog w = .ok (.slice (some ⟨w.heap.size, 0, none⟩) m m) (w.alloc (.cells L 5)) := fun w => by rw [hL]; exact Try.makeU8 m (by omega) w
  have HL := Lib.hid hL
  clear hL
  cases sh
  · obtain rfl : m = 256 := by simpa using hm
    have hmk2 : ∀ w : World, (Instr.makeSlice 26 (.int .i64 256) (.int .i64 256)).run Try.prog w = .ok (.slice (some ⟨w.heap.size, 0, none⟩) 256 256) (w.alloc (.cells L 5)) := hmk
    clear hmk hm
    unfold actCells
    go_enter Try.func42, Try.ntmps42
    go_wp2
    go_loopw [5, 14] (fun _ i wr => ∃ k : Nat, k ≤ 256 ∧ i = .int .i64 k ∧ Filling w #[.int .u8 kd, .int .i64 i0, .int .i64 t, .int .u8 y, .bool false, kv] 256 wr) (fun _ i _ => 256 - (intOf i).toNat)
    case atStart =>
      refine ⟨0, Nat.zero_le _, rfl, ?_⟩
      rw [HL.out]
      exact Filling.start w _ 256
    case round =>
      obtain ⟨k, hk, rfl, hM⟩ := hrel
      by_cases hlt : k < 256
      · have tk : decide ((k : Int) < 256) = true := by simp; omega
        have q0 : wr.cell? ⟨w.heap.size, 3, none⟩ = some (.int .u8 y) := hM.2.1.cell 3
        have q1 : wr.cell? ⟨w.heap.size, 2, none⟩ = some (.int .i64 t) := hM.2.1.cell 2
        obtain ⟨v, q2⟩ := hM.cell hlt
        have q3 := hM.frozen k
        have HM := Lib.hid hM
        clear hM
        go_wp2
        go_roundw
        case rel =>
          refine ⟨k + 1, by omega, by go_num, HM.out.set ?_ ?_⟩
          · exact Int.emod_nonneg _ (by decide)
          · exact Int.emod_lt_of_pos _ (by decide)
        case measure => simp [intOf]; omega
      · obtain rfl : k = 256 := by omega
        have HM := Lib.hid hM
        clear hM
        go_wp2
        go_ret
        obtain ⟨l, hl, hB⟩ := HM.out.end_ (by omega)
        exact ⟨_, l, rfl, hB, HM.out.2.2⟩
  · obtain rfl : m = 255 := by simpa using hm
    have hmk2 : ∀ w : World, (Instr.makeSlice 26 (.int .i64 255) (.int .i64 255)).run Try.prog w = .ok (.slice (some ⟨w.heap.size, 0, none⟩) 255 255) (w.alloc (.cells L 5)) := hmk
    clear hmk hm
    unfold actCells
    go_enter Try.func42, Try.ntmps42
    go_wp2
    go_loopw [5, 14] (fun _ i wr => ∃ k : Nat, k ≤ 255 ∧ i = .int .i64 k ∧ Filling w #[.int .u8 kd, .int .i64 i0, .int .i64 t, .int .u8 y, .bool true, kv] 255 wr) (fun _ i _ => 255 - (intOf i).toNat)
    case atStart =>
      refine ⟨0, Nat.zero_le _, rfl, ?_⟩
      rw [HL.out]
      exact Filling.start w _ 255
    case round =>
      obtain ⟨k, hk, rfl, hM⟩ := hrel
      by_cases hlt : k < 255
      · have tk : decide ((k : Int) < 255) = true := by simp; omega
        have q0 : wr.cell? ⟨w.heap.size, 3, none⟩ = some (.int .u8 y) := hM.2.1.cell 3
        have q1 : wr.cell? ⟨w.heap.size, 2, none⟩ = some (.int .i64 t) := hM.2.1.cell 2
        obtain ⟨v, q2⟩ := hM.cell hlt
        have q3 := hM.frozen k
        have HM := Lib.hid hM
        clear hM
        go_wp2
        go_roundw
        case rel =>
          refine ⟨k + 1, by omega, by go_num, HM.out.set ?_ ?_⟩
          · exact Int.emod_nonneg _ (by decide)
          · exact Int.emod_lt_of_pos _ (by decide)
        case measure => simp [intOf]; omega
      · obtain rfl : k = 255 := by omega
        have HM := Lib.hid hM
        clear hM
        go_wp2
        go_ret
        obtain ⟨l, hl, hB⟩ := HM.out.end_ (by omega)
        exact ⟨_, l, rfl, hB, HM.out.2.2⟩

end Go.Proofs.Ytbgiklkpinflaaa

namespace Go.Proofs.Ytbgiklkpinflaaa
open Go.RowKit Go.Shelf
attribute [local go_sem ↓] Go.wp_at_zero Go.wp_at_succ

/-- The disk at d and the reference's disk at r are the same disk; they lie apart; S: the blocks that they may write. -/
def Both (P : Nat → Prop) (w : World) (d r n : Nat) (S : List Nat) : Prop :=
  ∃ D Sd Sr, S = Sd ++ Sr ∧ (∀ q ∈ Sd, q ∉ Sr) ∧ DiskAt P w d D Sd ∧ Ref.DiskAt P w r D Sr ∧ D.life ≤ n ∧ D.pending.length ≤ n

theorem ref_pending {P : Nat → Prop} {w : World} {b : Nat} {D : Dsk} {g1 : Nat} {cur : Array Value} {pv : Value} {ps : List (Nat × Value)} (h : Ref.DiskRep P w b D g1 cur pv ps) : ∃ A c, pv = .slice A D.pending.length c := by
  obtain ⟨A, c, rfl, _⟩ := Ref.PenSlice.of_own h.own h.pslen
  exact ⟨A, c, by rw [h.pslen]⟩

def Seen (W wr : World) : Prop := Below W.heap.size W wr
theorem Got.below_ {B : Nat} {w w' : World} {v : Value} {l : List UInt8} (h : Got B w v l) (hb : Below w.heap.size w w') : Got B w' v l :=
  h.imp id fun h => h.keeps (F := fun _ => False) (Keeps.of_below hb) fun _ _ h => h.elim

set_option maxRecDepth 100000 in
set_option maxHeartbeats 4000000 in
theorem alike_calls {P : Nat → Prop} {w : World} {d r n : Nat} {S : List Nat} (h : Both P w d r n S) (hn : n ≤ 1000000) :
    Calls Try.prog 22 #[.pointer (some ⟨d, 0, none⟩), .pointer (some ⟨r, 0, none⟩)] w fun e w' => e = .returned (.bool true) ∧ Below w.heap.size w w' := by
  obtain ⟨D, Sd, Sr, _, _, hd, hr, hl, hp⟩ := h
  have hD := hd
  have hR := hr
  obtain ⟨ho, g1, cur1, pv, ps, rfl, hdr⟩ := hd
  obtain ⟨_, rg1, rcur1, rpv, rps, rfl, hrr⟩ := hr
  have h0 := hdr.c0
  have h3 := hdr.c3
  have hs := ho.some_
  have hf := ho.few
  have r0 := hrr.c0
  have r3 := hrr.c3
  obtain ⟨Ar, cr, rfl⟩ := ref_pending hrr
  have r1 := hrr.c1
  have HD := Lib.hid hD
  have HRr := Lib.hid hR
  clear hdr hrr hD hR ho
  have hpd : D.pending.length ≤ 1000000 := by omega
  go_enter Try.func22, Try.ntmps22
  go_wp2
  have hdq : ∀ nq, DiskAt P (w.drewN nq) d D (d :: g1 :: pv.ownBlock.toList) := fun nq => HD.out.below ((Below.refl _ w).drewN_ nq)
  have t1 : ((D.pending.length : Int) != (D.pending.length : Int)) = false := by simp
  have t2 : (D.down != D.down) = false := by simp
  have t3 : ((D.blocks.length : Int) != (D.blocks.length : Int)) = false := by simp
  have HDQ := Lib.hid hdq
  have HQ0 : Hid (∀ nq, (w.drewN nq).cell? ⟨d, 0, none⟩ = some (.slice (some ⟨g1, 0, none⟩) D.blocks.length cur1.size)) := fun nq => h0
  have HQ3 : Hid (∀ nq, (w.drewN nq).cell? ⟨d, 3, none⟩ = some (.bool D.down)) := fun nq => h3
  clear hdq
  go_quiet (first
    | (go_at_call 54; exact Calls.quiet_of_same ((pending_any _ (HDQ.out _)).mono fun _ _ h => ⟨h.1, h.2.symm⟩))
    | (go_at_call 55; exact Calls.quiet_of_same ((down_any d _ _ _ _ _ (HQ0.out _) hs hf (HQ3.out _)).mono fun _ _ h => ⟨h.1, h.2.symm⟩))
    | (go_at_call 56; exact Calls.quiet_of_same ((blocks_any d _ _ _ _ (HQ0.out _) hs hf).mono fun _ _ h => ⟨h.1, h.2.symm⟩)))
  go_wp2
  have HRQ : Hid (Ref.DiskAt P (w.drewN nq) r D (r :: rg1 :: (Value.slice Ar D.pending.length cr).ownBlock.toList)) := HRr.out.below ((Below.refl _ w).drewN_ nq)
  have HDW : Hid (DiskAt P (w.drewN nq) d D (d :: g1 :: pv.ownBlock.toList)) := HDQ.out nq
  have HB0 : Hid (Below w.heap.size w (w.drewN nq)) := (Below.refl _ w).drewN_ nq
  obtain ⟨W, hW⟩ : ∃ W, W = w.drewN nq := ⟨_, rfl⟩
  rw [← hW] at HRQ HDW HB0 ⊢
  have HSZ : Hid (w.heap.size ≤ W.heap.size) := HB0.out.size
  have hpd9 : D.pending.length ≤ 1000000000 := by omega
  clear hW
  go_loopw [5, 6, 7, 8, 9, 46] (fun _ _ _ _ _ i wr => ∃ k : Nat, k ≤ D.blocks.length ∧ i = .int .i64 k ∧ Seen W wr) (fun _ _ _ _ _ i _ => D.blocks.length - (intOf i).toNat)
  case atStart => exact ⟨0, Nat.zero_le _, rfl, Below.refl _ W⟩
  case round =>
    obtain ⟨k, hk, rfl, hM⟩ := hrel
    by_cases hlt : k < D.blocks.length
    · have tk : decide ((k : Int) < (D.blocks.length : Int)) = true := by simp; omega
      have HM : Hid (Below W.heap.size W wr) := hM
      clear hM
      obtain ⟨x, hx⟩ : ∃ x, x = D.read (k : Int) := ⟨_, rfl⟩
      have tx : (x.1 != x.1) = false := by simp
      have HR1 : Hid (Calls Try.prog 44 #[.pointer (some ⟨d, 0, none⟩), .int .i64 (k : Int)] wr (ReadPost wr x)) := by
        rw [hx]
        exact read_any _ (HDW.out.below HM.out) hpd9 _
      have HR2 : Hid (∀ w1, Below wr.heap.size wr w1 → Calls Try.prog 45 #[.pointer (some ⟨r, 0, none⟩), .int .i64 (k : Int)] w1 (ReadPost w1 x)) := by
        intro w1 h1
        rw [hx]
        exact Ref.read_any _ (HRQ.out.below (HM.out.trans (h1.mono HM.out.size))) hpd9 _
      clear hx
      go_wp2_with (first
        | (go_at_call 17; refine (same_calls (conv_got (HG1.out.below_ HB2.out)) (conv_got HG2.out)).mono ?_; rintro e w3 ⟨rfl, hb3⟩; have HB3 := Lib.hid hb3; clear hb3)
        | (go_at_call 45; refine (HR2.out _ HB1.out).mono ?_; rintro e w2 ⟨v2, rfl, hg2, hb2⟩; have HG2 := Lib.hid hg2; have HB2 := Lib.hid hb2; clear hg2 hb2)
        | (go_at_call 44; refine HR1.out.mono ?_; rintro e w1 ⟨v1, rfl, hg1, hb1⟩; have HG1 := Lib.hid hg1; have HB1 := Lib.hid hb1; clear hg1 hb1))
      go_roundw
      case rel =>
        refine ⟨k + 1, by omega, by go_num, ?_⟩
        have a1 := HB1.out
        have a2 := HB2.out
        have a3 := HB3.out
        show Below W.heap.size W _
        exact ((HM.out.trans (a1.mono HM.out.size)).trans (a2.mono (Nat.le_trans HM.out.size a1.size))).trans (a3.mono (Nat.le_trans (Nat.le_trans HM.out.size a1.size) a2.size))
      case measure => simp [intOf]; omega
    · obtain rfl : k = D.blocks.length := by omega
      have tk : decide ((D.blocks.length : Int) < (D.blocks.length : Int)) = false := by simp
      have HM : Hid (Below W.heap.size W wr) := hM
      clear hM
      go_wp2
      go_ret
      exact ⟨rfl, HB0.out.trans (HM.out.mono HSZ.out)⟩

end Go.Proofs.Ytbgiklkpinflaaa
