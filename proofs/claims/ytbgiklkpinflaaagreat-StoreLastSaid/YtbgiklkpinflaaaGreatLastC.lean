/- StoreLast: the calls of a bench whose map is named: Begin, Put, Commit; the bench's do. -/
import Derived.Test.YtbgiklkpinflaaaGreatLastB

namespace Go.Proofs.YtbgiklkpinflaaaGreat
open Go.RowKit Go.Shelf Go.Maps
attribute [local go_sem ↓] Go.wp_at_zero Go.wp_at_succ

abbrev SCallB (w0 : World) (g d s r : Nat) (X : Sto) (f : Nat) (av : Array Value) (code : Int) (X' : Sto) : Prop :=
  ∀ w R O S mb, BnB w0 w g d s r X R O S mb → Calls Tryz.prog f (#[.pointer (some ⟨s, 0, none⟩)] ++ av) w fun e w' => e = .returned (.int .i64 code) ∧ BPost w0 w g d s r O S mb X' R w'
abbrev RCallB (w0 : World) (g d s r : Nat) (R : RSto) (f : Nat) (av : Array Value) (code : Int) (R' : RSto) : Prop :=
  ∀ w X O S mb, BnB w0 w g d s r X R O S mb → Calls Tryz.prog f (#[.pointer (some ⟨r, 0, none⟩)] ++ av) w fun e w' => e = .returned (.int .i64 code) ∧ BPost w0 w g d s r O S mb X R' w'
section
variable {m : Nat} {Y : Joint} {nx : Nx} {w0 : World} {g d s r : Nat}
theorem begin_b (h : Ok m Y) (ht : Y.trans = none) : SCallB w0 g d s r Y.sto 32 #[] 0 Y.begin_.sto ∧ RCallB w0 g d s r Y.ref 33 #[] 0 Y.begin_.ref := by
  refine ⟨fun w R O S mb hB => ?_, fun w X O S mb hB => ?_⟩
  · exact (stob_begin hB.sb h.alive (opened_no ht).1).mono fun e w' ⟨a, b⟩ => ⟨a, .sto hB (by rw [begin_sto ht]; exact b)⟩
  · exact (ref_begin hB.bn.ref (opened_no ht).2).mono fun e w' ⟨a, b⟩ => ⟨a, .ref hB (by rw [begin_ref]; exact b)⟩
theorem put_b (h : Ok m Y) (ht : Y.trans = some nx) (hm : m + 1 ≤ 100) (k : ByteArray) (l : List UInt8) (hl : l.length ≤ 65536) : ∃ code, Ok (m + 1) (Y.put1 nx k l) ∧
    (∀ w R O S mb (P : Nat → Prop) v, BytesAt P w v l → BnB w0 w g d s r Y.sto R O S mb → Calls Tryz.prog 49 #[.pointer (some ⟨s, 0, none⟩), .string k, v] w fun e w' => e = .returned (.int .i64 code) ∧ BPost w0 w g d s r O S mb (Y.put1 nx k l).sto R w') ∧
    (∀ w X O S mb (P : Nat → Prop) v, BytesAt P w v l → BnB w0 w g d s r X Y.ref O S mb → Calls Tryz.prog 52 #[.pointer (some ⟨r, 0, none⟩), .string k, v] w fun e w' => e = .returned (.int .i64 code) ∧ BPost w0 w g d s r O S mb X (Y.put1 nx k l).ref w') := by
  have t := h.trans nx ht
  unfold Joint.put1 goodKey
  by_cases hg : 0 < k.size ∧ k.size ≤ 64
  · rw [if_pos (by simpa using hg)]
    refine ⟨0, h.put ht hg hl hm, fun w R O S mb P v hv hB => ?_, fun w X O S mb P v hv hB => ?_⟩
    · refine (stob_put (n := Y.sto.disk.blocks.length) hB.sb h.alive (opened_yes ht).1 h.stNow ?_ ?_ ?_ k hg.1 hg.2 v l hv hl (.inr (h.room ht))).mono fun e w' ⟨a, b⟩ => ⟨a, .sto hB (by rw [put_sto h ht]; exact b)⟩
      · rw [h.notes ht]
        exact t.ok.srt.noted_
      · rw [h.notes ht]
        have := noted_few nx
        have := t.few
        have := h.m100
        omega
      · rw [h.goneEq ht]
        have := goneOf_few Y.now nx
        have := h.few Y.now (by simp [Joint.live])
        have := h.m100
        omega
    · exact (ref_put hB.bn.ref h.refOk (opened_yes ht).2 k hg.1 hg.2 v l hv hl).mono fun e w' ⟨a, b⟩ => ⟨a, .ref hB (by rw [put_ref ht]; exact b)⟩
  · rw [if_neg (by simpa using hg)]
    have hk : k.size = 0 ∨ 64 < k.size := by omega
    refine ⟨55, h.mono (Nat.le_succ m) hm, fun w R O S mb P v hv hB => ?_, fun w X O S mb P v hv hB => ?_⟩
    · exact (sto_put_badkey hB.bn.sto.a_ h.alive (opened_yes ht).1 k v hk).mono fun e w' ⟨a, b⟩ => ⟨a, .below hB b⟩
    · exact (ref_put_badkey hB.bn.ref (opened_yes ht).2 k v hk).mono fun e w' ⟨a, b⟩ => ⟨a, .below hB b⟩
theorem commit_b (h : Ok m Y) (h0 : Y.disk.armed = 0) (ht : Y.trans = some nx) (hm : m + 1 ≤ 100) : ∃ Y' code, Ok (m + 1) Y' ∧
    (((Y.ref.need : Int) ≤ Y.ref.free ∧ code = 0 ∧ Y'.ref = Y.ref.comm) ∨ (Y.ref.free < (Y.ref.need : Int) ∧ code = 52 ∧ Y' = Y)) ∧
    SCallB w0 g d s r Y.sto 21 #[] code Y'.sto ∧ RCallB w0 g d s r Y.ref 22 #[] code Y'.ref := by
  have t := h.trans nx ht
  have hc : ∀ w R O S mb, BnB w0 w g d s r Y.sto R O S mb → Calls Tryz.prog 21 #[.pointer (some ⟨s, 0, none⟩)] w fun e w' => e = .returned (.int .i64 Y.sto.commit.1) ∧ StoBPost (w0.heap.size ≤ ·) w s d Y.sto.commit.2 O mb w' := fun w R O S mb hB => by
    refine stob_commit hB.sb h.alive (opened_yes ht).1 h.stNow h.stPins h.few_pins ?_ ?_ ?_ ?_ ?_ ?_
    · rw [h.notes ht]
      exact t.ok.srt.noted_
    · rw [h.goneEq ht]
      exact h.srt.gone nx
    · rw [h.notes ht]
      intro x hx
      obtain ⟨y, hy, _, rfl⟩ := mem_noted.1 hx
      refine ⟨?_, t.ok.vals y hy⟩
      show (kb y.1.key).length ≤ 64
      rw [kb_length]
      exact (t.ok.keys y hy).2
    · rw [h.notes ht]
      have := noted_few nx
      have := t.few
      have := h.m100
      omega
    · intro st' hst
      rw [h.notes ht, h.goneEq ht] at hst
      have e : Y.sto.disk.blocks.length = Y.n := h.len
      rw [e] at hst ⊢
      exact h.next_ok ht hst
    · have h1 := h.dlife
      have h2 := h.pend
      have h3 := h.m100
      refine ⟨?_, ?_⟩
      · show Y.disk.life + 3000 ≤ _
        omega
      · show Y.disk.pending.length + 3000 ≤ _
        rw [h2]
        simp
  by_cases hf : (Y.ref.need : Int) ≤ Y.ref.free
  · obtain ⟨Y', e1, e2, e3, _⟩ := h.commit_yes h0 ht hf hm
    rw [e1] at hc
    refine ⟨Y', 0, e3, .inl ⟨hf, rfl, e2⟩, fun w R O S mb hB => ?_, fun w X O S mb hB => ?_⟩
    · exact (hc w R O S mb hB).mono fun e w' ⟨a, b⟩ => ⟨a, .sto hB b⟩
    · exact (ref_commit hB.bn.ref h.refOk (opened_yes ht).2 hf).mono fun e w' ⟨a, b⟩ => ⟨a, .ref hB (by rw [e2]; exact b)⟩
  · rw [h.commit_no ht (by omega)] at hc
    refine ⟨Y, 52, h.mono (Nat.le_succ m) hm, .inr ⟨by omega, rfl, rfl⟩, fun w R O S mb hB => ?_, fun w X O S mb hB => ?_⟩
    · exact (hc w R O S mb hB).mono fun e w' ⟨a, b⟩ => ⟨a, .sto hB b⟩
    · exact (ref_commit_full hB.bn.ref h.refOk (opened_yes ht).2 (by omega)).mono fun e w' ⟨a, b⟩ => ⟨a, .below hB b⟩
end

section
variable {m : Nat} {Y : Joint} {nx : Nx} {w0 w : World} {g d s r : Nat} {O S : List Nat} {mb : Nat}
set_option maxRecDepth 100000 in
set_option maxHeartbeats 4000000 in
theorem dob_begin (h : BnB w0 w g d s r Y.sto Y.ref O S mb) (hY : Ok m Y) (ht : Y.trans = none) (kd : Nat) (key : ByteArray) (n y : Nat) (hkd : (kd : Int) % 9 = 0) :
    Calls Tryz.prog 13 #[.pointer (some ⟨g, 0, none⟩), .agg (opCells kd key n y)] w fun e w' => e = .returned (.bool true) ∧ BPost w0 w g d s r O S mb Y.begin_.sto Y.begin_.ref w' := by
  obtain ⟨hs, hr⟩ := begin_b (w0 := w0) (g := g) (d := d) (s := s) (r := r) hY ht
  have HS := Lib.hid hs
  have HR := Lib.hid hr
  have hA : Below w.heap.size w ((w.alloc (.cells (opCells kd key n y) 29)).drewN 1) := ((Below.refl _ w).alloc (Nat.le_refl _) _).drewN_ 1
  have hbx : Blk ((w.alloc (.cells (opCells kd key n y) 29)).drewN 1) w.heap.size 29 (opCells kd key n y) := (Blk.new w _ _).drewN 1
  have HBX := Lib.hid hbx
  have HA := Lib.hid hA
  have HB1 := Lib.hid (h.below hA)
  have a1 : ∀ o, (w.alloc o).cell? ⟨g, 1, none⟩ = some (.pointer (some ⟨s, 0, none⟩)) := fun o => (Blk.alloc h.bn.bench o).cell 1
  have a2 : ∀ o, (w.alloc o).cell? ⟨g, 2, none⟩ = some (.pointer (some ⟨r, 0, none⟩)) := fun o => (Blk.alloc h.bn.bench o).cell 2
  clear h hs hr hY ht hA hbx
  go_enter Tryz.func13, Tryz.ntmps13
  go_wp2
  go_region_held3 (fun w' => w'.cell? ⟨g, 1, none⟩ = some (.pointer (some ⟨s, 0, none⟩)) ∧ w'.cell? ⟨g, 2, none⟩ = some (.pointer (some ⟨r, 0, none⟩))) (go_keep)
    ((first
      | (go_at_call 33; refine (HR.out _ _ _ _ _ HB2.out).mono ?_; rintro e w3 ⟨rfl, hp3⟩; have HP3 := Lib.hid hp3; obtain ⟨O3, S3, m3, hB3, _⟩ := hp3; have i1 := (Blk.cell hB3.bn.bench 1 : w3.cell? ⟨g, 1, none⟩ = some (.pointer (some ⟨s, 0, none⟩))); have i2 := (Blk.cell hB3.bn.bench 2 : w3.cell? ⟨g, 2, none⟩ = some (.pointer (some ⟨r, 0, none⟩))); clear hB3)
      | (go_at_call 32; have hB1 := HB1.out; refine (HS.out _ _ _ _ _ hB1).mono ?_; rintro e w2 ⟨rfl, O2, S2, m2, hB2, hf2, hm2, hk2⟩; have HB2 := Lib.hid hB2; have HF2 := Lib.hid hf2; have HM2 := Lib.hid hm2; have HK2 := Lib.hid hk2; have e1 := (Blk.cell hB2.bn.bench 1 : w2.cell? ⟨g, 1, none⟩ = some (.pointer (some ⟨s, 0, none⟩))); have e2 := (Blk.cell hB2.bn.bench 2 : w2.cell? ⟨g, 2, none⟩ = some (.pointer (some ⟨r, 0, none⟩))); clear hB2 hf2 hm2 hk2 hB1)))
  all_goals
    go_wp2
    go_ret
    simp only [beq_self_eq_true]
    exact ⟨rfl, BPost.trans (fun _ h => .inl h) (.inl rfl) (Keeps.of_below HA.out) (BPost.trans HF2.out HM2.out HK2.out HP3.out)⟩
set_option maxRecDepth 100000 in
set_option maxHeartbeats 4000000 in
theorem dob_put (h : BnB w0 w g d s r Y.sto Y.ref O S mb) (hY : Ok m Y) (ht : Y.trans = some nx) (hm : m + 1 ≤ 100) (kd : Nat) (key : ByteArray) (n y : Nat) (hn : n ≤ 65535) (hy : y ≤ 255) (hkd : (kd : Int) % 9 = 1) :
    Calls Tryz.prog 13 #[.pointer (some ⟨g, 0, none⟩), .agg (opCells kd key n y)] w fun e w' => e = .returned (.bool true) ∧ BPost w0 w g d s r O S mb (Y.put1 nx key (valueOf n y)).sto (Y.put1 nx key (valueOf n y)).ref w' := by
  obtain ⟨code, _, hs, hr⟩ := put_b (w0 := w0) (g := g) (d := d) (s := s) (r := r) hY ht hm key (valueOf n y) (by rw [valueOf_length]; omega)
  obtain ⟨Y', hY'⟩ : ∃ Y', Y' = Y.put1 nx key (valueOf n y) := ⟨_, rfl⟩
  rw [← hY'] at hs hr ⊢
  have HS := Lib.hid hs
  have HR := Lib.hid hr
  have HH := Lib.hid h
  have hA : Below w.heap.size w (w.alloc (.cells (opCells kd key n y) 29)) := (Below.refl _ w).alloc (Nat.le_refl _) _
  have hbx : Blk (w.alloc (.cells (opCells kd key n y) 29)) w.heap.size 29 (opCells kd key n y) := Blk.new w _ _
  have HBX0 := Lib.hid hbx
  have HA0 := Lib.hid hA
  have a1 : ∀ o, (w.alloc o).cell? ⟨g, 1, none⟩ = some (.pointer (some ⟨s, 0, none⟩)) := fun o => (Blk.alloc h.bn.bench o).cell 1
  have a2 : ∀ o, (w.alloc o).cell? ⟨g, 2, none⟩ = some (.pointer (some ⟨r, 0, none⟩)) := fun o => (Blk.alloc h.bn.bench o).cell 2
  clear h hs hr hY ht hm hA hbx hY'
  go_enter Tryz.func13, Tryz.ntmps13
  go_wp2_with (go_at_call 51; refine (value_calls _ _ key n y hn hy).mono ?_; rintro e w1 ⟨v, rfl, hv, hb1⟩; have hbw : Below w.heap.size w (w1.drewN 1) := (HA0.out.trans (hb1.mono (by simp))).drewN_ 1; have HA := Lib.hid hbw; have HB1 := Lib.hid (HH.out.below hbw); have hbx := Blk.drewN (HBX0.out.below hb1 HBX0.out.lt) 1; have HBX := Lib.hid hbx; obtain ⟨gv, cv, curv, rfl, _, _, _, _⟩ := hv.cells; have HV := Lib.hid (hv.below_ ((Below.refl _ w1).drewN_ 1)); have c1 : w1.cell? ⟨g, 1, none⟩ = some (.pointer (some ⟨s, 0, none⟩)) := Blk.cell HB1.out.bn.bench 1; have c2 : w1.cell? ⟨g, 2, none⟩ = some (.pointer (some ⟨r, 0, none⟩)) := Blk.cell HB1.out.bn.bench 2; have b1 : w1.cell? ⟨w.heap.size, 1, none⟩ = some (.string key) := hbx.cell 1; clear hbw hbx hv hb1)
  go_region_held3 (fun w' => w'.cell? ⟨g, 1, none⟩ = some (.pointer (some ⟨s, 0, none⟩)) ∧ w'.cell? ⟨g, 2, none⟩ = some (.pointer (some ⟨r, 0, none⟩)) ∧ w'.cell? ⟨w.heap.size, 1, none⟩ = some (.string key)) (go_keep)
    ((first
      | (go_at_call 52; refine (HR.out _ _ _ _ _ _ _ HV2.out HB2.out).mono ?_; rintro e w3 ⟨rfl, hp3⟩; have HP3 := Lib.hid hp3; obtain ⟨O3, S3, m3, hB3, _, _, hk3⟩ := hp3; have i1 := (Blk.cell hB3.bn.bench 1 : w3.cell? ⟨g, 1, none⟩ = some (.pointer (some ⟨s, 0, none⟩))); have i2 := (Blk.cell hB3.bn.bench 2 : w3.cell? ⟨g, 2, none⟩ = some (.pointer (some ⟨r, 0, none⟩))); have b3 := Blk.keeps HBX2.out hk3 fun e => (HB2.out.bn.foot_no _ e _ _ HBX2.out).2.1 rfl; have b5 : w3.cell? ⟨w.heap.size, 1, none⟩ = some (.string key) := b3.cell 1; clear b3; clear hB3 hk3)
      | (go_at_call 49; have hB1 := HB1.out; refine (HS.out _ _ _ _ _ _ _ HV.out hB1).mono ?_; rintro e w2 ⟨rfl, O2, S2, m2, hB2, hf2, hm2, hk2⟩; have HB2 := Lib.hid hB2; have HF2 := Lib.hid hf2; have HM2 := Lib.hid hm2; have HK2 := Lib.hid hk2; have e1 := (Blk.cell hB2.bn.bench 1 : w2.cell? ⟨g, 1, none⟩ = some (.pointer (some ⟨s, 0, none⟩))); have e2 := (Blk.cell hB2.bn.bench 2 : w2.cell? ⟨g, 2, none⟩ = some (.pointer (some ⟨r, 0, none⟩))); have b2 := Blk.keeps HBX.out hk2 fun e => (hB1.bn.foot_no _ e _ _ HBX.out).2.1 rfl; have HBX2 := Lib.hid b2; have HV2 := Lib.hid (HV.out.keeps hk2 fun q cs hq _ hb => (hB1.bn.foot_no _ hq _ _ hb).2.2.1 rfl); have b4 : w2.cell? ⟨w.heap.size, 1, none⟩ = some (.string key) := b2.cell 1; clear b2; clear hB2 hf2 hm2 hk2 hB1)))
  all_goals
    go_wp2
    go_ret
    simp only [beq_self_eq_true]
    exact ⟨rfl, BPost.trans (fun _ h => .inl h) (.inl rfl) (Keeps.of_below HA.out) (BPost.trans HF2.out HM2.out HK2.out HP3.out)⟩
end

end Go.Proofs.YtbgiklkpinflaaaGreat
