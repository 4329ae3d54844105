/- A store that is opened again: the plain side; a loss of power under a store that lies in memory. The reference's Again and Copy; a bench whose store is dead. -/
import Derived.Test.YtbgiklkpinflaaaGreatBnH
import Derived.Test.YtbgiklkpinflaaaGreatCrashA

namespace Go.Proofs.YtbgiklkpinflaaaGreat
open Go.RowKit Go.Shelf Go.Maps

theorem Holds.same {D D' : Dsk} {p : Place} {l : List UInt8} (h : Holds D p l) (hs : ∀ b ∈ p.blocks, D'.see b = D.see b) : Holds D' p l :=
  ⟨h.size, h.sum, h.len, fun i hi => by rw [hs _ (List.getElem_mem hi), h.see i hi]⟩
theorem Rooted.same {D D' : Dsk} {st : St} (h : Rooted D st) (hl : D'.blocks.length = D.blocks.length) (hs : ∀ b, (b < 2 ∨ b ∈ st.index) → D'.see b = D.see b) : Rooted D' st := by
  refine ⟨?_, fun i hi => ?_, h.len, h.nod, fun b hb => by rw [hl]; exact h.blk b hb, ?_⟩
  · rw [hs _ (.inl (by omega)), h.root]
  · rw [hs _ (.inr (List.getElem_mem hi)), h.idx i hi]
  · rw [hs _ (.inl (by omega))]
    exact h.other

/-- The store that is opened again in its committed state, on the disk D'. -/
def Joint.again (Y : Joint) (D' : Dsk) : Joint := { Y with disk := D', life := D'.life, pins := [], trans := none, base := Y.last }
def RSto.again (R : RSto) (t : RSt) : RSto := ⟨R.blocks, t, ⟨0, []⟩, false, [], R.last⟩
/-- The store that Open makes. -/
def openedSto (D : Dsk) (st : St) : Sto := ⟨D, D.life, st, [], false, [], []⟩
section
variable {m : Nat} {Y : Joint} {D' : Dsk}
theorem again_sto : (Y.again D').sto = openedSto D' Y.now.st := rfl
theorem again_ref : (Y.again D').ref = Y.ref.again Y.ref.now := rfl
theorem Ok.again (h : Ok m Y) {k : Nat} (hk : m ≤ k) (hk2 : k ≤ 100) (hl : D'.blocks.length = Y.n) (hd : D'.down = false) (hp : D'.pending = []) (hlf : D'.life ≤ k) (hs : ∀ x ∈ Y.now.ents, ∀ b ∈ x.2.blocks, D'.see b = Y.disk.see b) : Ok k (Y.again D') := by
  have h' := h.mono hk hk2
  have hlive : ∀ J ∈ (Y.again D').live, J = Y.now := fun J hJ => by
    rcases List.mem_cons.1 hJ with rfl | hJ
    · rfl
    · simp [Joint.again, heldJ] at hJ
  have hin : Y.now ∈ Y.live := by simp [Joint.live]
  obtain ⟨own, hw⟩ := h.own
  have hj := hw.ok Y.now hin
  refine ⟨hk2, h.n4, h.n5, hl, hd, hp, rfl, hlf, ⟨own, ⟨fun J hJ => ?_, fun J hJ K hK _ => ?_, fun J hJ K hK x hx y hy => ?_⟩⟩, fun J hJ => ?_, h'.gen, fun J hJ => ?_, fun J hJ x hx => ?_, Nat.le_refl _, h'.last, Nat.zero_le _, fun nx hn => by cases hn⟩
  · rw [hlive J hJ]
    exact ⟨hj.gen, hj.srt, hj.few, hj.keys, hj.vals, fun x hx => (hj.holds x hx).same (hs x hx), hj.blk, hj.nod, hj.ilen, hj.iblk, hj.inod⟩
  · rw [hlive J hJ, hlive K hK]
  · rw [hlive J hJ] at hx
    rw [hlive K hK] at hy
    exact hw.ids _ hin _ hin x hx y hy
  · rw [hlive J hJ]
    exact h'.few _ hin
  · rw [hlive J hJ]
    exact Nat.le_refl _
  · rw [hlive J hJ] at hx
    exact Nat.le_trans (h.old _ hin x hx) h.base
end

/-- A loss of power where no write waits. -/
theorem crash_still {D : Dsk} (h : D.pending = []) (f : Nat → Bool) : D.crash f = { D with armed := 0, down := false, life := D.life + 1 } := by
  obtain ⟨B, p, a, dn, l⟩ := D
  have h : p = [] := h
  subst h
  rfl
theorem crash_still_see {D : Dsk} (h : D.pending = []) (f : Nat → Bool) (b : Nat) : (D.crash f).see b = D.see b := by
  rw [crash_still h]
  rfl

/-! ### a call of the disk, under a store -/
section
variable {P : Nat → Prop} {w w' : World} {s d : Nat} {X : Sto} {Sd T O : List Nat} {a mb : Nat} {pv nv gv : Value} {pins Q : List PinPlace}
theorem StoParts.diskTo (h1 : StoParts P w s d X Sd T a mb pv pins nv gv) {D' : Dsk} (hA : After P w w' d D' Sd) : StoNPost P w s d { X with disk := D' } pins (s :: (Sd ++ (T ++ pv.ownBlock.toList))) w' := by
  obtain ⟨S', hD', hS', k⟩ := hA
  obtain ⟨r1, r2⟩ := h1.rest k fun g hg => by simp [hg]
  have hs : ∀ g, g ∈ Sd → ∀ t cs, Blk w g t cs → t = 94 ∨ t = 89 ∨ t = 138 := fun g hg t cs hb => by
    obtain ⟨t', cs', hb', ht⟩ := h1.disk.lt g hg
    rw [(hb.det hb').2]
    exact ht
  have hT : ∀ g ∈ T, g ∉ Sd := fun g hg hd => by
    obtain ⟨M, hM⟩ := h1.trans.maps hg
    obtain ⟨t, cs, hb, _⟩ := h1.disk.lt g hd
    exact hM.not_blk hb
  refine ⟨_, StoParts.n_ (X := { X with disk := D' }) (T := T) (Sd := S') ⟨h1.hs.keeps k fun e => ?_, hD', r1, r2, h1.trans.keeps k (fun g cs hg _ hb => ?_) hT, h1.mbT, h1.pinT⟩, fun i hi => ?_, k.weaken fun i _ hi => by simp [hi]⟩
  · rcases hs s e _ _ h1.hs with h | h | h
    all_goals exact absurd h (by decide)
  · rcases hs g hg _ _ hb with h | h | h
    all_goals exact absurd h (by decide)
  · simp only [List.mem_cons, List.mem_append] at hi ⊢
    rcases hi with h | h | h | h
    · exact .inl (.inl h)
    · rcases hS' i h with h | h
      · exact .inl (.inr (.inl h))
      · exact .inr h
    · exact .inl (.inr (.inr (.inl h)))
    · exact .inl (.inr (.inr (.inr h)))
theorem ston_crash (h : StoN P w s d X Q O) (hl : X.disk.life ≤ 4611686018427387904) (hn : X.disk.pending.length ≤ 1000000000) (v : Value) (ks : List Bool) (hv : KeepAt w O v ks) :
    Calls Tryz.prog 25 #[.pointer (some ⟨d, 0, none⟩), v] w fun e w' => e = .returned (.tuple #[]) ∧ StoNPost P w s d { X with disk := X.disk.crash (keepOf ks) } Q O w' := by
  obtain ⟨Sd, T, a, mb, pv, nv, gv, h1, rfl⟩ := h
  refine (crash_any w h1.disk hl hn v ks (hv.mono fun k hk => by simp [hk])).mono ?_
  rintro e w' ⟨rfl, hA⟩
  exact ⟨rfl, h1.diskTo hA⟩
theorem ston_arm (h : StoN P w s d X Q O) (n : Int) (hn : n ≤ 9223372036854775807) :
    Calls Tryz.prog 28 #[.pointer (some ⟨d, 0, none⟩), .int .i64 n] w fun e w' => e = .returned (.tuple #[]) ∧ StoNPost P w s d { X with disk := X.disk.arm n } Q O w' := by
  obtain ⟨Sd, T, a, mb, pv, nv, gv, h1, rfl⟩ := h
  refine (arm_any w h1.disk n hn).mono ?_
  rintro e w' ⟨rfl, hA⟩
  exact ⟨rfl, h1.diskTo hA⟩
theorem StoN.disk_at (h : StoN P w s d X Q O) : ∃ Sd, DiskAt P w d X.disk Sd ∧ ∀ k ∈ Sd, k ∈ O := by
  obtain ⟨Sd, T, a, mb, pv, nv, gv, h1, rfl⟩ := h
  exact ⟨Sd, h1.disk, fun k hk => by simp [hk]⟩
end

end Go.Proofs.YtbgiklkpinflaaaGreat

namespace Go.Proofs.YtbgiklkpinflaaaGreat
open Go.RowKit Go.Shelf Go.Maps
attribute [local go_sem ↓] Go.wp_at_zero Go.wp_at_succ

section
variable {w w' : World} {r : Nat} {R : RSto} {S : List Nat}
set_option maxRecDepth 100000 in
set_option maxHeartbeats 4000000 in
theorem again_calls (h : RefAt w r R S) {v : Value} {t : RSt} (hE : EntsAt Any w v t.ents) :
    Calls Tryz.prog 80 #[.pointer (some ⟨r, 0, none⟩), .agg #[.int .i64 (t.gen : Int), v]] w fun e w' => ∃ r', e = .returned (.pointer (some ⟨r', 0, none⟩)) ∧ RefAt w' r' (R.again t) [r'] ∧ w.heap.size ≤ r' ∧ Below w.heap.size w w' := by
  obtain ⟨nv, xv, pv, qs, h1, _⟩ := h
  obtain ⟨A, c, rfl⟩ := hE.slice
  have HE := Lib.hid hE
  obtain ⟨o, ho⟩ : ∃ o : Obj, o = .cells #[.int .i64 (t.gen : Int), .slice A t.ents.length c] 46 := ⟨_, rfl⟩
  have hbn : Blk (w.alloc o) w.heap.size 46 #[.int .i64 (t.gen : Int), .slice A t.ents.length c] := by rw [ho]; exact Blk.new w _ _
  have c0 : (w.alloc o).cell? ⟨r, 0, none⟩ = some (.int .i64 (R.blocks : Int)) := (h1.blk.alloc o).cell 0
  have c7 : (w.alloc o).cell? ⟨r, 7, none⟩ = some (.int .i64 (R.last : Int)) := (h1.blk.alloc o).cell 7
  have n0 : (w.alloc o).cell? ⟨w.heap.size, 0, none⟩ = some (.int .i64 (t.gen : Int)) := hbn.cell 0
  have n1 : (w.alloc o).cell? ⟨w.heap.size, 1, none⟩ = some (.slice A t.ents.length c) := hbn.cell 1
  have HO := Lib.hid ho
  have hwa : Below w.heap.size w (w.alloc o) := (Below.refl _ w).alloc (Nat.le_refl _) o
  have HWA := Lib.hid hwa
  clear h1 hbn ho hE hwa
  go_enter Tryz.func80, Tryz.ntmps80
  go_wp2
  rw [← HO.out]
  go_region
  all_goals
    go_wp2
    go_ret
    have hW := (HWA.out.alloc HWA.out.size (.cells #[.int .i64 (R.blocks : Int), .int .i64 (t.gen : Int), .slice A t.ents.length c, .int .i64 0, .slice none 0 0, .bool false, .slice none 0 0, .int .i64 (R.last : Int)] 51)).drew_
    have hB := (Blk.new (w.alloc o) 51 #[.int .i64 (R.blocks : Int), .int .i64 (t.gen : Int), .slice A t.ents.length c, .int .i64 0, .slice none 0 0, .bool false, .slice none 0 0, .int .i64 (R.last : Int)]).drew
    have e : (w.alloc o).heap.size = w.heap.size + 1 := by simp
    rw [e] at hB
    refine ⟨_, rfl, ⟨.slice A t.ents.length c, .slice none 0 0, .slice none 0 0, [], ⟨hB, HE.out.below hW, EntsAt.nil _, ⟨rfl, .inl ⟨rfl, rfl⟩⟩, rfl, fun q hq => by simp at hq⟩, rfl⟩, ?_, hW⟩
    simp

set_option maxRecDepth 100000 in
set_option maxHeartbeats 8000000 in
theorem bench_dead {w0 : World} {g d s : Nat} {X : Sto} {Q : List PinPlace} {bp O : List Nat} {bv : Value} (h : Bn w0 w g d s r X Q R bp O S bv) (hdd : isDead X.life X.disk = true) (hok : StOk X.disk.blocks.length X.now) (hoks : ∀ x ∈ X.pins, StOk X.disk.blocks.length x) (hpn : X.pins.length ≤ 1000)
    (hpen : X.disk.pending.length ≤ 1000000000) (hpins : ∀ p ∈ bp, (∃ a mb st, SnapAt w p s a mb st) ∨ SnapOff w p) (hbl : bp.length ≤ 1000) :
    Calls Tryz.prog 27 #[.pointer (some ⟨g, 0, none⟩)] w fun e w' => e = .returned (.bool true) ∧ Below w.heap.size w w' := by
  have hA := h.sto.a_
  have hrc : readyCode X.life X.disk X.opened = 50 := by unfold readyCode; rw [hdd]; rfl
  have hbc : beginCode X.life X.disk X.opened = 50 := by unfold beginCode; rw [hdd]; rfl
  obtain ⟨A, c, rfl, hrow⟩ := row_cells h.row
  have HC : Hid (∀ wx, Below w.heap.size w wx → wx.cell? ⟨g, 1, none⟩ = some (.pointer (some ⟨s, 0, none⟩)) ∧ wx.cell? ⟨g, 3, none⟩ = some (.slice A bp.length c)) := fun wx hb => by
    have hb1 := Blk.below h.bench hb (Blk.lt h.bench)
    exact ⟨hb1.cell 1, hb1.cell 3⟩
  have HK : Hid (∀ wx, Below w.heap.size w wx → Calls Tryz.prog 37 #[.pointer (some ⟨s, 0, none⟩)] wx fun e w' => e = .returned (.tuple #[.slice none 0 0, .int .i64 50]) ∧ Below wx.heap.size wx w') := fun wx hb => sto_keys_dead (hA.below hb) hdd
  have HG : Hid (∀ wx, Below w.heap.size w wx → Calls Tryz.prog 50 #[.pointer (some ⟨s, 0, none⟩), .string ⟨#[97]⟩] wx fun e w' => (∃ A c, e = .returned (.tuple #[.slice A 0 c, .int .i64 50])) ∧ Below wx.heap.size wx w') := fun wx hb => by
    refine (sto_get (hA.below hb) hok hpen ⟨#[97]⟩ (by decide)).mono ?_
    unfold getOf
    rw [hdd]
    rintro e w' ⟨v, rfl, hg, hb'⟩
    obtain ⟨A, c, rfl⟩ := got_slice hg
    exact ⟨⟨A, c, rfl⟩, hb'⟩
  have HS : Hid (∀ wx, Below w.heap.size w wx → Calls Tryz.prog 14 #[.pointer (some ⟨s, 0, none⟩)] wx fun e w' => e = .returned (.tuple #[.pointer none, .int .i64 50]) ∧ Below wx.heap.size wx w') := fun wx hb => sto_snapshot_dead (hA.below hb) hdd
  have HP : Hid (∀ wx, Below w.heap.size w wx → ∀ p ∈ bp, Calls Tryz.prog 62 #[.pointer (some ⟨p, 0, none⟩)] wx fun e w' => e = .returned (.int .i64 0) ∧ Below wx.heap.size wx w') := fun wx hb p hp => by
    rcases hpins p hp with ⟨a, mb, st, hs⟩ | ho
    · have := snap_generation (hA.below hb) (hs.below hb)
      rw [hdd] at this
      exact this
    · exact off_generation (Blk.below ho hb (Blk.lt ho))
  have HB : Hid (∀ wx, Below w.heap.size w wx → Calls Tryz.prog 32 #[.pointer (some ⟨s, 0, none⟩)] wx fun e w' => e = .returned (.int .i64 50) ∧ Below wx.heap.size wx w') := fun wx hb => by
    have := sto_begin_no (hA.below hb) (.inl hdd)
    rw [hbc] at this
    exact this
  have HCM : Hid (∀ wx, Below w.heap.size w wx → Calls Tryz.prog 21 #[.pointer (some ⟨s, 0, none⟩)] wx fun e w' => e = .returned (.int .i64 50) ∧ Below wx.heap.size wx w') := fun wx hb => by
    have := ston_commit_closed (h.sto.below hb) (by rw [hrc]; decide)
    rw [hrc] at this
    exact this
  have HF : Hid (∀ wx, Below w.heap.size w wx → Calls Tryz.prog 19 #[.pointer (some ⟨s, 0, none⟩)] wx fun e w' => e = .returned (.int .i64 0) ∧ Below wx.heap.size wx w') := fun wx hb => by
    have := sto_free (hA.below hb) hok hoks hpn
    rw [hdd] at this
    exact this
  have HN : Hid (∀ wx, Below w.heap.size w wx → Calls Tryz.prog 38 #[.pointer (some ⟨s, 0, none⟩)] wx fun e w' => e = .returned (.int .i64 0) ∧ Below wx.heap.size wx w') := fun wx hb => by
    have := sto_generation (hA.below hb)
    rw [hdd] at this
    exact this
  have HROW := Lib.hid hrow
  obtain ⟨d1, d3⟩ := HC.out w (Below.refl _ _)
  clear h hdd hok hoks hpn hpen hpins hA hrc hbc hrow
  go_enter Tryz.func27, Tryz.ntmps27
  go_wp2_with (first
    | (go_at_call 37; refine (HK.out _ (Below.refl _ _)).mono ?_; rintro e w1 ⟨rfl, hb1⟩; have H1 := Lib.hid hb1; obtain ⟨e1, e3⟩ := HC.out _ hb1; clear hb1)
    | (go_at_call 50; refine (HG.out _ H1.out).mono ?_; rintro e w2 ⟨⟨A2, c2, rfl⟩, hb2⟩; have H2 : Hid (Below w.heap.size w w2) := H1.out.trans (hb2.mono H1.out.size); obtain ⟨f1, f3⟩ := HC.out _ H2.out; clear hb2)
    | (go_at_call 14; refine (HS.out _ H2.out).mono ?_; rintro e w3 ⟨rfl, hb3⟩; have H3 : Hid (Below w.heap.size w w3) := H2.out.trans (hb3.mono H2.out.size); obtain ⟨g1, g3⟩ := HC.out _ H3.out; clear hb3))
  go_loopw [40] (fun x wr => ∃ j : Nat, j ≤ bp.length ∧ x = .int .i64 j ∧ Below w.heap.size w wr) (fun x _ => bp.length - (intOf x).toNat)
  case atStart => exact ⟨0, Nat.zero_le _, rfl, H3.out⟩
  case round =>
    obtain ⟨j, hj, rfl, hM⟩ := hrel
    have HM := Lib.hid hM
    obtain ⟨i1, i3⟩ := HC.out _ hM
    by_cases hlt : j < bp.length
    · have tk : decide ((j : Int) < (bp.length : Int)) = true := by simp; omega
      obtain ⟨gb, rfl, _, q0⟩ := HROW.out j (.pointer (some ⟨bp[j], 0, none⟩)) (by simp [bptrs, hlt])
      have q0 := (hM.cell (World.block_lt_of_cell? w _ q0)).trans q0
      have HIN : Hid (bp[j] ∈ bp) := List.getElem_mem hlt
      obtain ⟨p, hp⟩ : ∃ p, p = bp[j] := ⟨_, rfl⟩
      rw [← hp] at q0 HIN
      have hj0 : (0 : Int) ≤ (j : Int) := by omega
      have hj1 : (j : Int) < (bp.length : Int) := by omega
      clear hM hp
      go_wp2_with (go_at_call 62; refine (HP.out _ HM.out p HIN.out).mono ?_; rintro e w4 ⟨rfl, hb4⟩; have H4 : Hid (Below w.heap.size w w4) := HM.out.trans (hb4.mono HM.out.size); clear hb4)
      go_roundw
      case rel => exact ⟨j + 1, by omega, by go_num, H4.out⟩
      case measure => simp [intOf]; omega
    · obtain rfl : j = bp.length := by omega
      have tk : decide ((bp.length : Int) < bp.length) = false := by simp
      clear hM
      go_wp2_with (first
        | (go_at_call 32; refine (HB.out _ HM.out).mono ?_; rintro e w5 ⟨rfl, hb5⟩; have H5 : Hid (Below w.heap.size w w5) := HM.out.trans (hb5.mono HM.out.size); obtain ⟨k1, k3⟩ := HC.out _ H5.out; clear hb5)
        | (go_at_call 21; refine (HCM.out _ H5.out).mono ?_; rintro e w6 ⟨rfl, hb6⟩; have H6 : Hid (Below w.heap.size w w6) := H5.out.trans (hb6.mono H5.out.size); obtain ⟨l1, l3⟩ := HC.out _ H6.out; clear hb6)
        | (go_at_call 19; refine (HF.out _ H6.out).mono ?_; rintro e w7 ⟨rfl, hb7⟩; have H7 : Hid (Below w.heap.size w w7) := H6.out.trans (hb7.mono H6.out.size); obtain ⟨m1, m3⟩ := HC.out _ H7.out; clear hb7)
        | (go_at_call 38; refine (HN.out _ H7.out).mono ?_; rintro e w8 ⟨rfl, hb8⟩; have H8 : Hid (Below w.heap.size w w8) := H7.out.trans (hb8.mono H7.out.size); clear hb8))
      go_ret
      exact ⟨rfl, H8.out⟩
end

end Go.Proofs.YtbgiklkpinflaaaGreat
