/- The bench's pin: no snapshot; Get. -/
import Derived.Test.YtbgiklkpinflaaaGreatBnG
namespace Go.Proofs.YtbgiklkpinflaaaGreat
open Go.RowKit Go.Shelf Go.Maps
attribute [local go_sem ↓] Go.wp_at_zero Go.wp_at_succ

section
variable {m : Nat} {w0 w : World} {g d s r : Nat} {Y : Joint} {Q : List PinPlace} {bp O S : List Nat} {bv : Value}
set_option maxRecDepth 100000 in
set_option maxHeartbeats 4000000 in
theorem pin_none {X : Sto} {R : RSto} (h : Bn w0 w g d s r X Q R [] O S bv) (kd : Nat) (key : ByteArray) (n y : Nat) :
    Calls Tryz.prog 59 #[.pointer (some ⟨g, 0, none⟩), .agg (opCells kd key n y)] w fun e w' => e = .returned (.bool true) ∧ Below w.heap.size w w' := by
  obtain ⟨A, c, rfl, _⟩ := own_slice h.row
  have a3 : ∀ o, (w.alloc o).cell? ⟨g, 3, none⟩ = some (.slice A 0 c) := fun o => (Blk.alloc h.bench o).cell 3
  clear h
  go_enter Tryz.func59, Tryz.ntmps59
  go_wp2
  go_ret
  exact ⟨rfl, (Below.refl _ w).alloc (Nat.le_refl _) _⟩
/-- What stands at place i of the bench's snapshots. -/
structure PinSet (w : World) (g r : Nat) (nb i p : Nat) (gb c nq gq cp gen ne : Nat) (Aq : Option Addr) (cq : Nat) (held : Bool) : Prop where
  cells : ∀ wx, Below w.heap.size w wx → wx.cell? ⟨g, 3, none⟩ = some (.slice (some ⟨gb, 0, none⟩) nb c) ∧ wx.cell? ⟨g, 2, none⟩ = some (.pointer (some ⟨r, 0, none⟩)) ∧ wx.cell? ⟨gb, i, none⟩ = some (.pointer (some ⟨p, 0, none⟩)) ∧
    wx.cell? ⟨r, 4 + 2, none⟩ = some (.slice (some ⟨gq, 0, none⟩) nq cp) ∧ wx.cell? ⟨gq, i * 3, none⟩ = some (.int .i64 (gen : Int)) ∧ wx.cell? ⟨gq, i * 3 + 1, none⟩ = some (.slice Aq ne cq) ∧ wx.cell? ⟨gq, i * 3 + 2, none⟩ = some (.bool held)
theorem pin_set (h : Bn w0 w g d s r Y.sto Q Y.ref bp O S bv) (hY : Ok m Y) (hp : PinsRel w Y.pins Q bp) (hfew : ∀ q ∈ Y.pins, q.1.ents.length ≤ 1000) {i : Nat} (hil : i < bp.length) :
    ∃ p J held gb c nq gq cp Aq cq, PinSet w g r bp.length i p gb c nq gq cp J.gen J.rs.ents.length Aq cq held ∧ i < nq ∧ nq ≤ 1000 ∧ bp[i]? = some p ∧ Y.pins[i]? = some (J, held) ∧ EntsAt Any w (.slice Aq J.rs.ents.length cq) J.rs.ents ∧ J.rs.ents.length ≤ 1000 := by
  obtain ⟨A, c, rfl, hrow⟩ := row_cells h.row
  obtain ⟨gb, rfl, _, p0⟩ := hrow i (.pointer (some ⟨bp[i], 0, none⟩)) (by simp [bptrs, hil])
  have hpi : bp[i]? = some bp[i] := List.getElem?_eq_getElem hil
  obtain ⟨p, hpe⟩ : ∃ p, p = bp[i] := ⟨_, rfl⟩
  rw [← hpe] at p0 hpi
  obtain ⟨nv, xv, pv, qs, hrp, _⟩ := h.ref
  obtain ⟨Ap, cp, rfl, hpc⟩ := pins_cells hrp.pins
  have hpl : i < Y.pins.length := by rw [← hp.len]; exact hil
  have hql : qs.length = Y.pins.length := by
    have := congrArg List.length hrp.pl
    rw [List.length_map] at this
    rw [this]
    show (pinsR Y.pins).length = _
    unfold pinsR
    rw [List.length_map]
  have hiq : i < qs.length := by omega
  obtain ⟨gq, rfl, q0, q1, q2⟩ := hpc i _ (List.getElem?_eq_getElem hiq)
  have hqi : qs[i].1 = (Y.pins[i].1.rs, Y.pins[i].2) := by
    have h1 : (qs.map (·.1))[i]? = (pinsR Y.pins)[i]? := by rw [hrp.pl]; rfl
    rw [List.getElem?_map, List.getElem?_eq_getElem hiq] at h1
    unfold pinsR at h1
    rw [List.getElem?_map, List.getElem?_eq_getElem hpl] at h1
    simpa using h1
  have hpE := hrp.pe _ (List.getElem_mem hiq)
  rw [hqi] at hpE q0 q2
  obtain ⟨Aq, cq, hv⟩ := hpE.slice
  rw [hv] at hpE q1
  have h100 := hY.pins
  have hm := hY.m100
  refine ⟨p, Y.pins[i].1, Y.pins[i].2, gb, c, qs.length, gq, cp, Aq, cq, ⟨fun wx hb => ?_⟩, hiq, by omega, hpi, List.getElem?_eq_getElem hpl, hpE, by
    show (Y.pins[i].1.ents.map (·.1)).length ≤ 1000
    rw [List.length_map]
    exact hfew _ (List.getElem_mem hpl)⟩
  have hb1 := Blk.below h.bench hb (Blk.lt h.bench)
  have hb2 := hrp.blk.below hb hrp.blk.lt
  have gg : ∀ {a : Addr} {v : Value}, w.cell? a = some v → wx.cell? a = some v := fun h => (hb.cell (World.block_lt_of_cell? w _ h)).trans h
  exact ⟨hb1.cell 3, hb1.cell 2, gg p0, hb2.cell 6, gg q0, gg q1, gg q2⟩
set_option maxRecDepth 100000 in
set_option maxHeartbeats 8000000 in
/-- The walk: kind 8 reads, kind 7 releases. -/
theorem pin_walk {n nb i p gb c nq gq cp gen ne : Nat} {Aq : Option Addr} {cq : Nat} {held : Bool} {r : Nat} {S : List Nat} (hps : PinSet w g r nb i p gb c nq gq cp gen ne Aq cq held) (hil : i < nb) (hinq : i < nq) (hn : n ≤ 65535) (hmod : (n : Int) % (nb : Int) = (i : Int)) (kd : Nat) (key : ByteArray) (y : Nat) (code : Int) (l : List UInt8) (hS : ∀ k ∈ S, k < w.heap.size) (Z C6 : World → Prop) (C5 : World → World → Prop)
    (hkd : (kd : Int) % 9 = 7 ∨ (kd : Int) % 9 = 8)
    (hG : ∀ wx, Below w.heap.size w wx → Calls Tryz.prog 63 #[.pointer (some ⟨p, 0, none⟩), .string key] wx (FetchPost wx (if held then (code, l) else (56, []))))
    (hR : ∀ wx, Below w.heap.size w wx → Calls Tryz.prog 57 #[.agg #[.int .i64 (gen : Int), .slice Aq ne cq], .string key] wx (GotR wx (code, l)))
    (hZ : (kd : Int) % 9 = 8 → ∀ wx, Below w.heap.size w wx → Z wx)
    (h5 : (kd : Int) % 9 = 7 → ∀ wx, Below w.heap.size w wx → Calls Tryz.prog 17 #[.pointer (some ⟨r, 0, none⟩), .int .i64 (i : Int)] wx fun e w' => e = .returned (.tuple #[]) ∧ C5 wx w' ∧ Keeps (· ∈ S) wx w')
    (h6 : ∀ wx w', C5 wx w' → Calls Tryz.prog 18 #[.pointer (some ⟨p, 0, none⟩)] w' fun e w6 => e = .returned (.int .i64 (if held then 0 else 56)) ∧ C6 w6)
    (h7 : ∀ w6, C6 w6 → Calls Tryz.prog 62 #[.pointer (some ⟨p, 0, none⟩)] w6 fun e w7 => e = .returned (.int .i64 0) ∧ Z w7) :
    Calls Tryz.prog 59 #[.pointer (some ⟨g, 0, none⟩), .agg (opCells kd key n y)] w fun e w' => e = .returned (.bool true) ∧ Z w' := by
  have HPS := Lib.hid hps
  have HG := Lib.hid hG
  have HR := Lib.hid hR
  have HZ := Lib.hid hZ
  have H5 := Lib.hid h5
  have H6 := Lib.hid h6
  have H7 := Lib.hid h7
  have HS := Lib.hid hS
  have HKD := Lib.hid hkd
  have hb0' : (0 : Int) < (nb : Int) := by omega
  have hnb0 : ((nb : Int) == 0) = false := by rw [beq_eq_false_iff_ne]; omega
  have hi0 : (0 : Int) ≤ (i : Int) := by omega
  have hi1 : (i : Int) < (nb : Int) := by omega
  have hi2 : (i : Int) < (nq : Int) := by omega
  have H1 : Hid (Below w.heap.size w (w.alloc (.cells (opCells kd key n y) 29))) := (Below.refl _ w).alloc (Nat.le_refl _) _
  obtain ⟨a1, a2, a3, a4, a5, a6, a7⟩ := HPS.out.cells _ H1.out
  have HA : Hid (∀ k o, Below w.heap.size w (((w.alloc (.cells (opCells kd key n y) 29)).drewN k).alloc o)) := fun k o => (H1.out.drewN_ k).alloc (by simp) o
  have b1 := fun k o => (HPS.out.cells _ (HA.out k o)).1
  have b2 := fun k o => (HPS.out.cells _ (HA.out k o)).2.1
  have b3 := fun k o => (HPS.out.cells _ (HA.out k o)).2.2.1
  have b4 := fun k o => (HPS.out.cells _ (HA.out k o)).2.2.2.1
  have b5 := fun k o => (HPS.out.cells _ (HA.out k o)).2.2.2.2.1
  have b6 := fun k o => (HPS.out.cells _ (HA.out k o)).2.2.2.2.2.1
  have b7 := fun k o => (HPS.out.cells _ (HA.out k o)).2.2.2.2.2.2
  clear hps hG hR hZ h5 h6 h7 hS hkd
  go_enter Tryz.func59, Tryz.ntmps59
  go_wp2
  go_quiet (fail)
  go_wp2
  simp only [hmod]
  go_cut [6, 7] from 28 to 44 (fun s6 s7 wx => s6 = .pointer (some ⟨p, 0, none⟩) ∧ s7 = .pointer (some ⟨w.heap.size + 1, 0, none⟩) ∧ ∃ k, wx = (((w.alloc (.cells (opCells kd key n y) 29)).drewN k).alloc (.cells #[.int .i64 (gen : Int), .slice Aq ne cq, .bool held] 48)))
  case first =>
    go_region_law (fail)
    all_goals
      go_wp2_with fail
      go_meet
      exact ⟨rfl, rfl, _, rfl⟩
  case rest =>
    obtain ⟨rfl, rfl, k, rfl⟩ := hcut
    obtain ⟨W, hW⟩ : ∃ W, W = (((w.alloc (.cells (opCells kd key n y) 29)).drewN k).alloc (.cells #[.int .i64 (gen : Int), .slice Aq ne cq, .bool held] 48)) := ⟨_, rfl⟩
    have hop : Blk W w.heap.size 29 (opCells kd key n y) := by rw [hW]; exact Blk.alloc (Blk.drewN (Blk.new w _ _) k) _
    have hpx : Blk W (w.heap.size + 1) 48 #[.int .i64 (gen : Int), .slice Aq ne cq, .bool held] := by
      rw [hW]
      have := Blk.new ((w.alloc (.cells (opCells kd key n y) 29)).drewN k) 48 #[.int .i64 (gen : Int), .slice Aq ne cq, .bool held]
      simpa using this
    have hbw : Below w.heap.size w W := by rw [hW]; exact HA.out k _
    have hsz : w.heap.size + 2 ≤ W.heap.size := by rw [hW]; simp
    rw [← hW]
    obtain ⟨y1, y2, y3, y4, y5, y6, y7⟩ := HPS.out.cells _ hbw
    have z0 : W.cell? ⟨w.heap.size, 0, none⟩ = some (.int .u8 (kd : Int)) := hop.cell 0
    have z1 : W.cell? ⟨w.heap.size, 1, none⟩ = some (.string key) := hop.cell 1
    have x0 : W.cell? ⟨w.heap.size + 1, 0, none⟩ = some (.int .i64 (gen : Int)) := hpx.cell 0
    have x1 : W.cell? ⟨w.heap.size + 1, 1, none⟩ = some (.slice Aq ne cq) := hpx.cell 1
    have x2 : W.cell? ⟨w.heap.size + 1, 2, none⟩ = some (.bool held) := hpx.cell 2
    have HOP := Lib.hid hop
    have HPX := Lib.hid hpx
    have HBW := Lib.hid hbw
    have HSZ := Lib.hid hsz
    clear hW hop hpx hbw hsz b1 b2 b3 b4 b5 b6 b7 a1 a2 a3 a4 a5 a6 a7 HA H1
    rcases HKD.out with hk | hk
    · have HK := Lib.hid hk
      cases held with
      | true =>
        go_wp2_with (first
          | (go_at_call 17; refine (H5.out HK.out _ HBW.out).mono ?_; rintro e w5 ⟨rfl, hc5, hk5⟩; have HC5 := Lib.hid hc5; have b5 := Blk.keeps HPX.out hk5 (fun e => by have := HS.out _ e; omega); have t2 : w5.cell? ⟨w.heap.size + 1, 2, none⟩ = some (.bool true) := b5.cell 2; clear hc5 hk5 b5)
          | (go_at_call 18; refine (H6.out _ _ HC5.out).mono ?_; rintro e w6 ⟨rfl, hc6⟩; have HC6 := Lib.hid hc6; clear hc6; simp only [if_true])
          | (go_at_call 62; refine (H7.out _ HC6.out).mono ?_; rintro e w7 ⟨rfl, hz7⟩; have HZ7 := Lib.hid hz7; clear hz7))
        go_ret
        exact ⟨rfl, HZ7.out⟩
      | false =>
        go_wp2_with (first
          | (go_at_call 17; refine (H5.out HK.out _ HBW.out).mono ?_; rintro e w5 ⟨rfl, hc5, hk5⟩; have HC5 := Lib.hid hc5; have b5 := Blk.keeps HPX.out hk5 (fun e => by have := HS.out _ e; omega); have t2 : w5.cell? ⟨w.heap.size + 1, 2, none⟩ = some (.bool false) := b5.cell 2; clear hc5 hk5 b5)
          | (go_at_call 18; refine (H6.out _ _ HC5.out).mono ?_; rintro e w6 ⟨rfl, hc6⟩; have HC6 := Lib.hid hc6; clear hc6; simp only [Bool.false_eq_true, if_false])
          | (go_at_call 62; refine (H7.out _ HC6.out).mono ?_; rintro e w7 ⟨rfl, hz7⟩; have HZ7 := Lib.hid hz7; clear hz7))
        go_ret
        exact ⟨rfl, HZ7.out⟩
    · have HK := Lib.hid hk
      cases held with
      | true =>
        go_wp2_with (first
          | (go_at_call 63; refine (HG.out _ HBW.out).mono ?_; rintro e w5 ⟨v5, rfl, hg5, hb5⟩; obtain ⟨A5, c5, rfl⟩ := got_slice hg5; have HG5 := Lib.hid hg5; have HB5 := Lib.hid hb5; have H5b : Hid (Below w.heap.size w w5) := HBW.out.trans (hb5.mono HBW.out.size); have bo := HOP.out.below hb5 HOP.out.lt; have bp := HPX.out.below hb5 HPX.out.lt; have o1 : w5.cell? ⟨w.heap.size, 1, none⟩ = some (.string key) := bo.cell 1; have p0 : w5.cell? ⟨w.heap.size + 1, 0, none⟩ = some (.int .i64 (gen : Int)) := bp.cell 0; have p1 : w5.cell? ⟨w.heap.size + 1, 1, none⟩ = some (.slice Aq ne cq) := bp.cell 1; have p2 : w5.cell? ⟨w.heap.size + 1, 2, none⟩ = some (.bool true) := bp.cell 2; simp only [if_true]; clear hg5 hb5 bo bp)
          | (go_at_call 57; refine (HR.out _ H5b.out).mono ?_; rintro e w6 ⟨v6, rfl, hg6, hb6⟩; obtain ⟨A6, c6, rfl⟩ := gotR_slice hg6; have HG6 := Lib.hid hg6; have HB6 := Lib.hid hb6; have H6b : Hid (Below w.heap.size w w6) := H5b.out.trans (hb6.mono H5b.out.size); clear hg6 hb6)
          | (go_at_call 58; refine (same_calls (l := l) (conv_got (HG5.out.imp id fun h => h.below_ HB6.out)) (conv_gotR HG6.out)).mono ?_; rintro e w7 ⟨rfl, hb7⟩; have H7b : Hid (Below w.heap.size w w7) := H6b.out.trans (hb7.mono H6b.out.size); clear hb7))
        go_ret
        exact ⟨by simp, HZ.out HK.out _ H7b.out⟩
      | false =>
        go_wp2_with (go_at_call 63; refine (HG.out _ HBW.out).mono ?_; rintro e w5 ⟨v5, rfl, hg5, hb5⟩; obtain ⟨A5, c5, rfl⟩ := got_slice hg5; have H5b : Hid (Below w.heap.size w w5) := HBW.out.trans (hb5.mono HBW.out.size); have bp := HPX.out.below hb5 HPX.out.lt; have p2 : w5.cell? ⟨w.heap.size + 1, 2, none⟩ = some (.bool false) := bp.cell 2; simp only [Bool.false_eq_true, if_false]; clear hg5 hb5 bp)
        go_ret
        exact ⟨by simp, HZ.out HK.out _ H5b.out⟩
end

end Go.Proofs.YtbgiklkpinflaaaGreat
