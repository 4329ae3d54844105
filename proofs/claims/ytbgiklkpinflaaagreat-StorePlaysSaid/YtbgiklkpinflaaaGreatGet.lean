/- Get; Get of a snapshot; Snapshot. -/
import Derived.Test.YtbgiklkpinflaaaGreatFetch
namespace Go.Proofs.YtbgiklkpinflaaaGreat
open Go.RowKit Go.Shelf Go.Maps

def getOf (life : Nat) (D : Dsk) (ps : List (List UInt8 × Place)) (k : List UInt8) : Int × List UInt8 := if isDead life D then (50, []) else D.fetch ps k
theorem isDead_up {life : Nat} {D : Dsk} (h : isDead life D = false) : D.down = false := by
  unfold isDead at h
  rw [Bool.or_eq_false_iff] at h
  exact h.2

set_option maxRecDepth 100000 in
set_option maxHeartbeats 4000000 in
theorem get_calls {P : Nat → Prop} {w : World} {s d life a mb : Nat} {pv nv gv : Value} {op : Bool} {D : Dsk} {S : List Nat} {st : St} (hs : StoBlk w s d life a pv op nv gv) (hD : DiskAt P w d D S) (hst : StateAt w a mb st)
    (hok : StOk D.blocks.length st) (hpen : D.pending.length ≤ 1000000000) (key : ByteArray) (hk : key.size ≤ maxLen) :
    Calls Tryz.prog 50 #[.pointer (some ⟨s, 0, none⟩), .string key] w (FetchPost w (getOf life D st.places key.data.toList)) := by
  have HDD := Lib.hid (dead_calls hs hD)
  obtain ⟨R, hR⟩ : ∃ R, R = getOf life D st.places key.data.toList := ⟨_, rfl⟩
  rw [← hR]
  have HR := Lib.hid hR
  cases hdd : isDead life D
  · have e1 : R = D.fetch st.places key.data.toList := by rw [hR]; unfold getOf; rw [hdd]; rfl
    have HF : Hid (∀ w1, Below w.heap.size w w1 → Calls Tryz.prog 103 #[.pointer (some ⟨s, 0, none⟩), .pointer (some ⟨a, 0, none⟩), .string key] w1 (FetchPost w1 R)) := by
      show ∀ w1, _
      intro w1 hb
      rw [e1]
      exact fetch_calls (Blk.below hs hb (Blk.lt hs)) (hD.below hb) (hst.below hb) hok (isDead_up hdd) hpen key hk
    have HS := Lib.hid hs
    rw [hdd] at HDD
    clear hR hdd e1 hs hD hst hok
    go_enter Tryz.func50, Tryz.ntmps50
    go_wp2_with (go_at_call 60; refine HDD.out.mono ?_; rintro e w1 ⟨rfl, nq, hw1⟩; have HB1 : Hid (Below w.heap.size w w1) := (by show Below w.heap.size w w1; rw [hw1]; exact (Below.refl _ w).drewN_ nq); clear hw1; have c2 : w1.cell? ⟨s, 2, none⟩ = some (.pointer (some ⟨a, 0, none⟩)) := (Blk.below HS.out HB1.out (Blk.lt HS.out)).cell 2)
    refine (HF.out _ HB1.out).mono ?_
    rintro e w2 ⟨v, rfl, hg, hb2⟩
    have HG := Lib.hid hg
    have HB2 := Lib.hid hb2
    clear hg hb2
    go_wp2
    go_ret2
    exact ⟨v, rfl, HG.out.imp id (fun h => h.mono fun g hg => Nat.le_trans HB1.out.size hg), HB1.out.trans (HB2.out.mono HB1.out.size)⟩
  · have e1 : R = (50, []) := by rw [hR]; unfold getOf; rw [hdd]; rfl
    rw [hdd] at HDD
    rw [e1]
    clear hR hdd e1 hs hD hst hok
    go_enter Tryz.func50, Tryz.ntmps50
    go_wp2_with (go_at_call 60; refine HDD.out.mono ?_; rintro e w1 ⟨rfl, nq, hw1⟩; have HB1 : Hid (Below w.heap.size w w1) := (by show Below w.heap.size w w1; rw [hw1]; exact (Below.refl _ w).drewN_ nq); clear hw1)
    go_ret2
    exact ⟨_, rfl, .inl ⟨rfl, rfl⟩, HB1.out⟩

end Go.Proofs.YtbgiklkpinflaaaGreat
