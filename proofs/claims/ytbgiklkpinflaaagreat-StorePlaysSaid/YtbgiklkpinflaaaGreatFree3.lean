/- Free. -/
import Derived.Test.YtbgiklkpinflaaaGreatFree2
namespace Go.Proofs.YtbgiklkpinflaaaGreat
open Go.RowKit Go.Shelf Go.Maps

theorem PinsAt.keeps {F : Nat → Prop} {w w' : World} {s : Nat} {pv : Value} {pins : List PinPlace} {sts : List St} (h : PinsAt w s pv pins sts) (k : Keeps F w w') (h1 : (∀ g, pv.ownBlock = some g → ¬ F g)) (h2 : ∀ g t cs, F g → Blk w g t cs → t ≠ 3 ∧ t ≠ 133 ∧ t ≠ 103) (h3 : ∀ q ∈ pins, ¬ F q.2.2) : PinsAt w' s pv pins sts :=
  ⟨ownsRow_keeps h.own k h1, h.len, fun i q st hq hst => ⟨(h.pat i q st hq hst).1.keeps k (fun hg => (h2 _ _ _ hg (h.pat i q st hq hst).1).2.2 rfl),
    (h.pat i q st hq hst).2.keeps k (fun g t cs hg hb => ⟨(h2 g t cs hg hb).1, (h2 g t cs hg hb).2.1⟩) (h3 q (List.mem_of_getElem? hq))⟩⟩

set_option maxRecDepth 100000 in
set_option maxHeartbeats 4000000 in
theorem Free_calls {P : Nat → Prop} {w : World} {s d life a mb : Nat} {pv nv gv : Value} {op : Bool} {D : Dsk} {S : List Nat} {st : St} {pins : List PinPlace} {sts : List St} (hs : StoBlk w s d life a pv op nv gv) (hD : DiskAt P w d D S) (hst : StateAt w a mb st) (hp : PinsAt w s pv pins sts)
    (hok : StOk D.blocks.length st) (hoks : ∀ x ∈ sts, StOk D.blocks.length x) (hpn : pins.length ≤ 1000) :
    Calls Tryz.prog 19 #[.pointer (some ⟨s, 0, none⟩)] w fun e w' => e = .returned (.int .i64 (if isDead life D then 0 else ((freeOf D.blocks.length (st :: sts)).length : Int))) ∧ Below w.heap.size w w' := by
  have HDD := Lib.hid (dead_calls hs hD)
  have hfr : ∀ w1, Below w.heap.size w w1 → Calls Tryz.prog 66 #[.pointer (some ⟨s, 0, none⟩)] w1 fun e w' => ∃ v, e = .returned v ∧ w'.ownsRow w1.heap.size 3 1 v (freeOf D.blocks.length (st :: sts)).length ((freeOf D.blocks.length (st :: sts)).map Go.Proofs.YtbgiklkpinflaaaGreat.nv) ∧ Below w1.heap.size w1 w' := fun w1 hb =>
    free_calls (Blk.below hs hb (Blk.lt hs)) (hD.below hb) (hst.below hb) (hp.keeps (F := fun _ => False) (Keeps.of_below hb) (fun _ _ h => h) (fun _ _ _ h => h.elim) (fun _ _ h => h)) hok hoks hpn
  have HFR := Lib.hid hfr
  have hle : (freeOf D.blocks.length (st :: sts)).length ≤ 1024 := by
    have h1 := List.length_filter_le (fun i => decide (2 ≤ i) && !takenBy (st :: sts) i) (List.range D.blocks.length)
    rw [List.length_range] at h1
    exact Nat.le_trans h1 hD.1.few
  obtain ⟨nf, hnf⟩ : ∃ nf, nf = (freeOf D.blocks.length (st :: sts)).length := ⟨_, rfl⟩
  rw [← hnf] at hle HFR ⊢
  clear hfr hs hD hst hp hok hoks hnf
  cases hdd : isDead life D
  all_goals
    rw [hdd] at HDD
    clear hdd
    go_enter Tryz.func19, Tryz.ntmps19
    go_wp2_with (first
      | (go_at_call 60; refine HDD.out.mono ?_; rintro e w' ⟨rfl, nq, hw1⟩; have HB1 : Hid (Below w.heap.size w w') := (by show Below w.heap.size w w'; rw [hw1]; exact (Below.refl _ w).drewN_ nq); clear hw1)
      | (go_at_call 66; refine (HFR.out _ HB1.out).mono ?_; rintro e w2 ⟨v, rfl, hown, hb2⟩; obtain ⟨Av, cv, rfl, _⟩ := own_slice hown; clear hown; have HB2 : Hid (Below w.heap.size w w2) := HB1.out.trans (hb2.mono HB1.out.size)))
    go_ret
    first
      | exact ⟨rfl, HB2.out⟩
      | exact ⟨rfl, HB1.out⟩

end Go.Proofs.YtbgiklkpinflaaaGreat
