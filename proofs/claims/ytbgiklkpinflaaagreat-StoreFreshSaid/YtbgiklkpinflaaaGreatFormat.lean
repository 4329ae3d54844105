/- Format. -/
import Derived.Test.YtbgiklkpinflaaaGreatSto2
import Derived.Carry
namespace Go.Proofs.YtbgiklkpinflaaaGreat
open Go.RowKit Go.Shelf Go.Maps
attribute [local go_sem ↓] Go.wp_at_zero Go.wp_at_succ

theorem down_at {P : Nat → Prop} {w : World} {b : Nat} {D : Dsk} {S : List Nat} (h : DiskAt P w b D S) : Calls Tryz.prog 82 #[.pointer (some ⟨b, 0, none⟩)] w fun e w' => e = .returned (.bool D.down) ∧ w = w' := by
  obtain ⟨ho, g1, cur1, pv, ps, rfl, hr⟩ := h
  exact down_any b _ _ _ D.down w hr.c0 ho.some_ ho.few hr.c3
theorem DiskAt.life_ {P : Nat → Prop} {w : World} {b : Nat} {D : Dsk} {S : List Nat} (h : DiskAt P w b D S) : w.cell? ⟨b, 4, none⟩ = some (.int .i64 (D.life : Int)) := by
  obtain ⟨ho, g1, cur1, pv, ps, rfl, hr⟩ := h
  exact hr.c4

def St.zero : St := ⟨0, [], [2]⟩
def wipes : List (Nat × List UInt8) := [(0, zeros), (1, zeros)]
def Dsk.fmt (D : Dsk) : Int × Dsk :=
  if D.down then (50, D)
  else if (writes wipes D).1 = 0 then
    if (writes wipes D).2.sync.1 = 0 then (writes wipes D).2.sync.2.save St.zero else (writes wipes D).2.sync
  else writes wipes D
theorem After.size {P : Nat → Prop} {w w1 : World} {d : Nat} {D : Dsk} {S : List Nat} (h : After P w w1 d D S) : w.heap.size ≤ w1.heap.size := let ⟨_, _, _, k⟩ := h; k.size
/-- k of the two are written. -/
def Wiping (P : Nat → Prop) (w : World) (d : Nat) (S : List Nat) (D : Dsk) (k : Nat) (wr : World) : Prop :=
  ∃ Di, writes (wipes.drop k) Di = writes wipes D ∧ After P w wr d Di S ∧ Small Di (2 - k + 6)

theorem StOk.zero {n : Nat} (h : 4 ≤ n) (h2 : n ≤ 1024) : StOk n St.zero where
  srt := Srt.nil
  keys := fun x hx => by simp [St.zero] at hx
  places := fun x hx => by simp [St.zero] at hx
  few := by simp [St.zero]
  index := by simp [St.zero]
  index1 := by simp [St.zero]
  iblk := fun b hb => by simp [St.zero] at hb; subst hb; omega
  gen := by simp [St.zero]
  most := h2

theorem zero_state (w : World) (o : Obj) : StateAt ((((w.alloc (.map #[] 0)).alloc (.cells #[.int .i64 2] 3)).alloc (.cells #[.int .i64 0, .map (some w.heap.size), .slice (some ⟨w.heap.size + 1, 0, none⟩) 1 1] 133)).alloc o) (w.heap.size + 1 + 1) w.heap.size St.zero := by
  have b1 := Blk.new (w.alloc (.map #[] 0)) 3 #[.int .i64 2]
  rw [World.size_alloc] at b1
  have b2 := Blk.new ((w.alloc (.map #[] 0)).alloc (.cells #[.int .i64 2] 3)) 133 #[.int .i64 0, .map (some w.heap.size), .slice (some ⟨w.heap.size + 1, 0, none⟩) 1 1]
  rw [World.size_alloc, World.size_alloc] at b2
  refine ⟨_, b2.alloc o, ⟨_, 1, rfl, Nat.le_refl _, by unfold maxLen; decide, fun _ => ⟨w.heap.size + 1, _, rfl, (b1.alloc _).alloc o, rfl, rfl⟩⟩, [], ?_, rfl, by simp⟩
  refine (MapAt.made w).keeps (F := fun _ => False) ?_ id
  exact (((Keeps.refl _ _).alloc _).alloc _).alloc o

/-- What Format leaves. -/
def FormatPost (P : Nat → Prop) (w : World) (d : Nat) (D : Dsk) (S : List Nat) (e : Ending) (w' : World) : Prop :=
  After P w w' d D.fmt.2 S ∧
  ((D.fmt.1 ≠ 0 ∧ e = .returned (.tuple #[.pointer none, .int .i64 D.fmt.1])) ∨
   (D.fmt.1 = 0 ∧ ∃ s a mb sv, e = .returned (.tuple #[.pointer (some ⟨s, 0, none⟩), .int .i64 0]) ∧ w.heap.size ≤ s ∧ w.heap.size ≤ a ∧ w.heap.size ≤ mb ∧
      Blk w' s 100 #[.pointer (some ⟨d, 0, none⟩), .int .i64 ((writes wipes D).2.sync.2.life : Int), .pointer (some ⟨a, 0, none⟩), .slice none 0 0, .bool false, .map none, .map none] ∧
      StateAt w' a mb St.zero ∧ sv = ()))

theorem fmt_ret {a b : Int × Dsk} (h : a = b) : Ending.returned (.tuple #[.pointer none, .int .i64 a.1]) = .returned (.tuple #[.pointer none, .int .i64 b.1]) := by rw [h]
theorem wipes_drop {k : Nat} (h : k < 2) : wipes.drop k = (k, zeros) :: wipes.drop (k + 1) := by
  rcases k with _ | _ | k
  · rfl
  · rfl
  · omega
theorem wipe_next {P : Nat → Prop} {w wr w1 w2 : World} {d k : Nat} {S Si : List Nat} {D Di : Dsk} {r : Int × Dsk} (hk : k < 2) (hw : writes (wipes.drop k) Di = writes wipes D) (hnx : ∀ w2 D2, After P wr w2 d D2 Si → After P w w2 d D2 S) (hsm : Small Di (2 - k + 6)) (hr : r = Di.write (k : Int) zeros)
    (hb : Below wr.heap.size wr w1) (hAf : After P w1 w2 d r.2 Si) : (r.1 = 0 → Wiping P w d S D (k + 1) w2) ∧ (r.1 ≠ 0 → writes wipes D = r ∧ After P w w2 d r.2 S) := by
  have hA2 : After P w w2 d r.2 S := hnx _ _ (After.trans (fun _ h => .inl h) (Keeps.of_below hb) hAf)
  rw [wipes_drop hk] at hw
  constructor
  · intro hz
    refine ⟨r.2, ?_, hA2, ?_⟩
    · rw [← hw, hr]
      show _ = if _ then _ else _
      rw [← hr, if_pos hz, hr]
    · rw [hr]
      exact Dsk.write_small (hsm.mono (by omega))
  · intro hz
    refine ⟨?_, hA2⟩
    rw [← hw]
    show (if _ then _ else _) = _
    rw [← hr, if_neg hz]

set_option maxRecDepth 100000 in
set_option maxHeartbeats 4000000 in
theorem format_calls {P : Nat → Prop} {d : Nat} {D : Dsk} {S : List Nat} (w : World) (hD : DiskAt P w d D S) (hsm : Small D 8) :
    Calls Tryz.prog 43 #[.pointer (some ⟨d, 0, none⟩)] w (FormatPost P w d D S) := by
  have hmk := Tryz.make256
  have hmm := @run_makeMap Tryz.prog
  have HD := Lib.hid hD
  clear hD
  cases hdn : D.down
  · have HDN := Lib.hid hdn
    clear hdn
    go_enter Tryz.func43, Tryz.ntmps43
    go_wp2_with (go_at_call 82; refine (down_at HD.out).mono ?_; rw [HDN.out]; rintro e w' ⟨rfl, rfl⟩)
    go_loopw [11] (fun i wr => ∃ k : Nat, k ≤ 2 ∧ i = .int .i64 k ∧ Wiping P w d S D k wr) (fun i _ => 2 - (intOf i).toNat)
    case atStart => exact ⟨0, Nat.zero_le _, rfl, D, rfl, After.refl HD.out, hsm⟩
    case round =>
      obtain ⟨k, hk, rfl, hW⟩ := hrel
      by_cases hlt : k < 2
      · obtain ⟨Di, hw, hA, hsmi⟩ := hW
        have tk : decide ((k : Int) < 2) = true := by simp; omega
        obtain ⟨Si, hDi, hnx⟩ := hA.next
        obtain ⟨r, hr⟩ : ∃ r, r = Di.write (k : Int) zeros := ⟨_, rfl⟩
        have HR := Lib.hid hr
        have HDi := Lib.hid hDi
        clear hr hDi
        have hlife := hsmi.life
        have hpen := hsmi.pen
        by_cases hz : r.1 = 0
        all_goals
          first
            | have tz : (r.1 != 0) = false := by simpa using hz
            | have tz : (r.1 != 0) = true := by simpa using hz
          have HZ := Lib.hid hz
          clear hz
          go_wp2_with (go_at_call 74; refine (write_any _ (HDi.out.below ((Below.refl _ wr).alloc (Nat.le_refl _) _)) hlife hpen _ _ zeros (handed_new HDi.out (zcells_blk (Blk.new wr _ _) (Nat.le_refl _)))).mono ?_; rw [← HR.out]; rintro e w2 ⟨rfl, hAf⟩)
        all_goals
          have hst := wipe_next hlt hw hnx hsmi HR.out ((Below.refl _ wr).alloc (Nat.le_refl _) _) hAf
          first
            | exact ⟨⟨k + 1, by omega, by go_num, hst.1 HZ.out⟩, by simp [intOf]; omega⟩
            | (obtain ⟨e1, hA2⟩ := hst.2 HZ.out
               have e2 : D.fmt = r := by unfold Dsk.fmt; rw [HDN.out, if_neg (by simp), e1, if_neg HZ.out]
               go_ret2
               exact ⟨by rw [e2]; exact hA2, .inl ⟨by rw [e2]; exact HZ.out, (fmt_ret e2).symm⟩⟩)
      · have hk2 : k = 2 := by omega
        subst hk2
        obtain ⟨Di, hw, hA, hsmi⟩ := hW
        have hw2 : writes wipes D = (0, Di) := hw.symm
        have HW := Lib.hid hw2
        clear hw hw2
        obtain ⟨Si, hDi, hnx⟩ := hA.next
        obtain ⟨r2, hr2⟩ : ∃ r2, r2 = Di.sync := ⟨_, rfl⟩
        have hsm2 : Small r2.2 5 := by rw [hr2]; exact Dsk.sync_small hsmi
        have HR2 := Lib.hid hr2
        clear hr2
        go_wp2_with fail
        refine (sync_any _ hDi hsmi.life hsmi.pen).mono ?_
        rw [← HR2.out]
        rintro e w3 ⟨rfl, hAf⟩
        have HA3 := Lib.hid (hnx _ _ hAf)
        clear hAf hnx
        by_cases hz2 : r2.1 = 0
        · have tz2 : (r2.1 != 0) = false := by simpa using hz2
          have HZ2 := Lib.hid hz2
          clear hz2
          obtain ⟨S3, hD3, hnx3⟩ := HA3.out.next
          have c4 := hD3.life_
          have c4a : ∀ o1, (w3.alloc o1).cell? ⟨d, 4, none⟩ = some (.int .i64 (r2.2.life : Int)) := fun _ => Lib.cell?_alloc_some _ c4
          go_wp2_with fail
          have BS : Blk ((((w3.alloc (.map #[] 0)).alloc (.cells #[.int .i64 2] 3)).alloc (.cells #[.int .i64 0, .map (some w3.heap.size), .slice (some ⟨w3.heap.size + 1, 0, none⟩) 1 1] 133)).alloc (.cells #[.pointer (some ⟨d, 0, none⟩), .int .i64 (r2.2.life : Int), .pointer (some ⟨w3.heap.size + 1 + 1, 0, none⟩), .slice none 0 0, .bool false, .map none, .map none] 100)) (w3.heap.size + 1 + 1 + 1) 100 #[.pointer (some ⟨d, 0, none⟩), .int .i64 (r2.2.life : Int), .pointer (some ⟨w3.heap.size + 1 + 1, 0, none⟩), .slice none 0 0, .bool false, .map none, .map none] := by
            have := Blk.new (((w3.alloc (.map #[] 0)).alloc (.cells #[.int .i64 2] 3)).alloc (.cells #[.int .i64 0, .map (some w3.heap.size), .slice (some ⟨w3.heap.size + 1, 0, none⟩) 1 1] 133)) 100 #[.pointer (some ⟨d, 0, none⟩), .int .i64 (r2.2.life : Int), .pointer (some ⟨w3.heap.size + 1 + 1, 0, none⟩), .slice none 0 0, .bool false, .map none, .map none]
            simpa using this
          have BA : StateAt ((((w3.alloc (.map #[] 0)).alloc (.cells #[.int .i64 2] 3)).alloc (.cells #[.int .i64 0, .map (some w3.heap.size), .slice (some ⟨w3.heap.size + 1, 0, none⟩) 1 1] 133)).alloc (.cells #[.pointer (some ⟨d, 0, none⟩), .int .i64 (r2.2.life : Int), .pointer (some ⟨w3.heap.size + 1 + 1, 0, none⟩), .slice none 0 0, .bool false, .map none, .map none] 100)) (w3.heap.size + 1 + 1) w3.heap.size St.zero := zero_state w3 _
          have B4 : Below w3.heap.size w3 ((((w3.alloc (.map #[] 0)).alloc (.cells #[.int .i64 2] 3)).alloc (.cells #[.int .i64 0, .map (some w3.heap.size), .slice (some ⟨w3.heap.size + 1, 0, none⟩) 1 1] 133)).alloc (.cells #[.pointer (some ⟨d, 0, none⟩), .int .i64 (r2.2.life : Int), .pointer (some ⟨w3.heap.size + 1 + 1, 0, none⟩), .slice none 0 0, .bool false, .map none, .map none] 100)) :=
            ((((Below.refl _ w3).alloc (Nat.le_refl _) _).alloc (by simp) _).alloc (by simp; omega) _).alloc (by simp; omega) _
          obtain ⟨r4, hr4⟩ : ∃ r4, r4 = r2.2.save St.zero := ⟨_, rfl⟩
          have HR4 := Lib.hid hr4
          clear hr4
          have e2 : D.fmt = r4 := by unfold Dsk.fmt; rw [HDN.out, if_neg (by simp), HW.out, if_pos rfl, ← HR2.out, if_pos HZ2.out, ← HR4.out]
          have HE := Lib.hid e2
          clear e2
          have elife : (writes wipes D).2.sync.2.life = r2.2.life := by rw [HW.out, ← HR2.out]
          have HLF := Lib.hid elife
          clear elife
          have hw3 := HA3.out.size
          refine (save_calls (n := 4) _ (hD3.below B4) _ BS rfl BA (StOk.zero (Nat.le_refl _) (by decide)) (by decide) (hsm2.mono (by decide))).mono ?_
          rw [← HR4.out]
          rintro e w5 ⟨rfl, hAf5⟩
          have HA5 : Hid (After P w w5 d r4.2 S) := hnx3 _ _ (After.trans (fun _ h => .inl h) (Keeps.of_below B4) hAf5)
          have HBS := Lib.hid (hAf5.blk (hD3.below B4) BS (by decide) (by decide) (by decide))
          have HBA := Lib.hid (hAf5.state (hD3.below B4) BA)
          clear hAf5 BS BA B4 hnx3
          by_cases hz4 : r4.1 = 0
          · have tz4 : (r4.1 != 0) = false := by simpa using hz4
            have HZ4 := Lib.hid hz4
            clear hz4
            go_wp2
            go_ret2
            refine ⟨by rw [HE.out]; exact HA5.out, .inr ⟨by rw [HE.out]; exact HZ4.out, _, _, _, (), rfl, ?_, ?_, hw3, by rw [HLF.out]; exact HBS.out, HBA.out, rfl⟩⟩
            · omega
            · omega
          · have tz4 : (r4.1 != 0) = true := by simpa using hz4
            have HZ4 := Lib.hid hz4
            clear hz4
            go_wp2
            go_ret2
            exact ⟨by rw [HE.out]; exact HA5.out, .inl ⟨by rw [HE.out]; exact HZ4.out, (fmt_ret HE.out).symm⟩⟩
        · have tz2 : (r2.1 != 0) = true := by simpa using hz2
          have HZ2 := Lib.hid hz2
          clear hz2
          have e2 : D.fmt = r2 := by unfold Dsk.fmt; rw [HDN.out, if_neg (by simp), HW.out, if_pos rfl, ← HR2.out, if_neg HZ2.out]
          have HE := Lib.hid e2
          clear e2
          go_wp2
          go_ret2
          exact ⟨by rw [HE.out]; exact HA3.out, .inl ⟨by rw [HE.out]; exact HZ2.out, (fmt_ret HE.out).symm⟩⟩
  · have e2 : D.fmt = (50, D) := by unfold Dsk.fmt; rw [if_pos hdn]
    have HE := Lib.hid e2
    have HDN := Lib.hid hdn
    clear e2 hdn
    go_enter Tryz.func43, Tryz.ntmps43
    go_wp2_with (go_at_call 82; refine (down_at HD.out).mono ?_; rw [HDN.out]; rintro e w' ⟨rfl, rfl⟩)
    go_ret2
    exact ⟨by rw [HE.out]; exact After.refl HD.out, .inl ⟨by rw [HE.out]; show (50 : Int) ≠ 0; decide, (fmt_ret HE.out).symm⟩⟩

end Go.Proofs.YtbgiklkpinflaaaGreat
