/- StorePins: a snapshot that is held while the store goes on; the walk. -/
import Derived.Test.YtbgiklkpinflaaaGreatBnH
namespace Go.Proofs.YtbgiklkpinflaaaGreat
open Go.RowKit Go.Shelf Go.Maps
attribute [local go_sem ↓] Go.wp_at_zero Go.wp_at_succ

section
variable {m : Nat} {w0 w w' : World} {g d s r n : Nat} {X : Sto} {R : RSto} {Y : Joint} {Q : List PinPlace} {bp O S : List Nat} {bv : Value}
/-- The bench forgets its snapshots. -/
theorem Bn.clear (h : Bn w0 w g d s r X Q R bp O S bv) : Bn w0 (w.setCell ⟨g, 3, none⟩ (.slice none 0 0)) g d s r X Q R [] O S (.slice none 0 0) := by
  have k : Keeps (· = g) w (w.setCell ⟨g, 3, none⟩ (.slice none 0 0)) := Keeps.set1 w g 3 _
  refine ⟨Nat.le_trans h.size k.size, below_keeps h.kept k h.size fun q hq => by rw [hq]; exact h.newg, h.sto.keeps k fun q hq => ?_, h.nod, fun q hq => ⟨(h.qs q hq).1, Nat.lt_of_lt_of_le (h.qs q hq).2 k.size⟩, h.ref.keeps k (fun q hq e => ?_) (fun q t cs hq hb => ?_), Blk.set_ h.bench 3 _, ⟨rfl, .inl ⟨rfl, rfl⟩⟩, fun q hq => by simp [Value.ownBlock] at hq, h.newO, h.newS, h.newg⟩
  · subst hq
    refine ⟨fun e => ?_, _, _, h.bench, by decide, by decide, by decide, fun e => absurd e (by decide)⟩
    rcases h.ltO _ e _ _ h.bench with e | e | e | e | e
    all_goals exact absurd e (by decide)
  · subst hq
    obtain ⟨t', cs', hb', ht'⟩ := h.ref.own _ e
    rw [(hb'.det h.bench).2] at ht'
    rcases ht' with e | e
    all_goals exact absurd e (by decide)
  · subst hq
    rw [(hb.det h.bench).2]
    exact ⟨by decide, by decide⟩
/-- The snapshot p is held, the reference's pin i: state J. -/
def Pinning (m : Nat) (w0 : World) (g d s r i p : Nat) (J : JSt) (w : World) : Prop :=
  ∃ Y Q bp O S bv, Bn w0 w g d s r Y.sto Q Y.ref bp O S bv ∧ Ok m Y ∧ Quiet Unarmed Y.disk Y.now.st ∧ Y.pins[i]? = some (J, true) ∧ ∃ q, Q[heldTo Y.pins i]? = some q ∧ q.1 = p
theorem Pinning.below {i p : Nat} {J : JSt} (h : Pinning m w0 g d s r i p J w) (hb : Below w.heap.size w w') : Pinning m w0 g d s r i p J w' := by
  obtain ⟨Y, Q, bp, O, S, bv, h1, h2⟩ := h
  exact ⟨Y, Q, bp, O, S, bv, h1.below hb, h2⟩
theorem Pinning.kept {i p : Nat} {J : JSt} (h : Pinning m w0 g d s r i p J w) : Below w0.heap.size w0 w := by
  obtain ⟨Y, Q, bp, O, S, bv, h1, _⟩ := h
  exact h1.kept
theorem Pinning.bench {i p : Nat} {J : JSt} (h : Pinning m w0 g d s r i p J w) : ∃ bv, BenchAt w g d s r bv := by
  obtain ⟨Y, Q, bp, O, S, bv, h1, _⟩ := h
  exact ⟨bv, h1.bench⟩
theorem Pinning.mono {i p k : Nat} {J : JSt} (h : Pinning m w0 g d s r i p J w) (hk : m ≤ k) (h100 : k ≤ 100) : Pinning k w0 g d s r i p J w := by
  obtain ⟨Y, Q, bp, O, S, bv, h1, h2, h3⟩ := h
  exact ⟨Y, Q, bp, O, S, bv, h1, h2.mono hk h100, h3⟩
theorem DoPost.pinning {e : Ending} {i : Nat} {J : JSt} {q : PinPlace} (h : DoPost Unarmed m w0 w g d s r Y Q bp O S bv e w') (hJ : Y.pins[i]? = some (J, true)) (hq : Q[heldTo Y.pins i]? = some q) : e = .returned (.bool true) ∧ Pinning (m + 1) w0 g d s r i q.1 J w' := by
  obtain ⟨he, Y', Q', bp', O', S', bv', h1, h2, h3, _, h5, h6, _⟩ := h
  have hi := (List.getElem?_eq_some_iff.1 hJ).1
  have hp : Y'.pins[i]? = some (J, true) ∧ heldTo Y'.pins i = heldTo Y.pins i := by
    rcases h5 with e | e
    · rw [e]
      exact ⟨hJ, rfl⟩
    · rw [e, List.getElem?_append_left hi, heldTo_append _ _ (Nat.le_of_lt hi)]
      exact ⟨hJ, rfl⟩
  obtain ⟨t, ht⟩ := h6
  refine ⟨he, Y', Q', bp', O', S', bv', h1, h2, h3, hp.1, q, ?_, rfl⟩
  rw [hp.2, ← ht, List.getElem?_append_left (List.getElem?_eq_some_iff.1 hq).1]
  exact hq
/-- A call of the bench that has forgotten its snapshots. -/
theorem Pinning.do_ {i p : Nat} {J : JSt} (h : Pinning m w0 g d s r i p J w) (hm : m + 1 ≤ 100) {wx : World} (hx : Below (w.setCell ⟨g, 3, none⟩ (.slice none 0 0)).heap.size (w.setCell ⟨g, 3, none⟩ (.slice none 0 0)) wx) (kd : Nat) (key : ByteArray) (q y : Nat) (hks : key.size ≤ maxLen) (hq : q ≤ 65535) (hy : y ≤ 255) (h7 : (kd : Int) % 9 ≠ 7) :
    Calls Tryz.prog 13 #[.pointer (some ⟨g, 0, none⟩), .agg #[.int .u8 (kd : Int), .string key, .int .u16 (q : Int), .int .u8 (y : Int)]] wx fun e w' => e = .returned (.bool true) ∧ Pinning (m + 1) w0 g d s r i p J w' := by
  obtain ⟨Y, Q, bp, O, S, bv, h1, h2, h3, h4, q', h5, rfl⟩ := h
  have hB := h1.clear.below hx
  have hc : (kd : Int) % 9 = 0 ∨ (kd : Int) % 9 = 1 ∨ (kd : Int) % 9 = 2 ∨ (kd : Int) % 9 = 3 ∨ (kd : Int) % 9 = 4 ∨ (kd : Int) % 9 = 5 ∨ (kd : Int) % 9 = 6 ∨ (kd : Int) % 9 = 8 := by omega
  rcases hc with hc | hc | hc | hc | hc | hc | hc | hc
  · exact (do_begin hB h2 h3 hm kd key q y hc).mono fun e w' hd => hd.pinning h4 h5
  · exact (do_put hB h2 h3 hm kd key q y hq hy hc).mono fun e w' hd => hd.pinning h4 h5
  · exact (do_delete hB h2 h3 hm kd key q y hks hc).mono fun e w' hd => hd.pinning h4 h5
  · exact (do_commit hB h2 h3 hm kd key q y hc).mono fun e w' hd => hd.pinning h4 h5
  · exact (do_abort hB h2 h3 hm kd key q y hc).mono fun e w' hd => hd.pinning h4 h5
  · exact (do_get hB h2 h3 hm kd key q y hks hc).mono fun e w' hd => hd.pinning h4 h5
  · rcases Nat.lt_or_ge Y.sto.pins.length 16 with h16 | h16
    · exact (do_snap hB h2 h3 hm (Nat.zero_le _) h16 kd key q y hc).mono fun e w' hd => hd.pinning h4 h5
    · exact (do_snap_full hB h2 h3 hm h16 kd key q y hc).mono fun e w' hd => hd.pinning h4 h5
  · refine do_to_pin hB kd key q y (.inr hc) _ fun wy hy => ?_
    refine (pin_none (hB.below hy) kd key q y).mono ?_
    rintro e w' ⟨rfl, hb'⟩
    exact ⟨rfl, rfl, ((DoPost.same hB h2 h3 hm (hy.trans (hb'.mono hy.size))).pinning h4 h5).2⟩
/-- The held snapshot, and what the reference has of it. -/
theorem Pinning.look {i p : Nat} {J : JSt} (h : Pinning m w0 g d s r i p J w) :
    ∃ gq nq cp Aq cq, i < nq ∧ nq ≤ 1000 ∧ (w.cell? ⟨g, 2, none⟩ = some (.pointer (some ⟨r, 0, none⟩)) ∧ w.cell? ⟨r, 4 + 2, none⟩ = some (.slice (some ⟨gq, 0, none⟩) nq cp) ∧ w.cell? ⟨gq, i * 3, none⟩ = some (.int .i64 (J.gen : Int)) ∧ w.cell? ⟨gq, i * 3 + 1, none⟩ = some (.slice Aq J.rs.ents.length cq)) ∧
      Calls Tryz.prog 16 #[.pointer (some ⟨p, 0, none⟩), .agg #[.int .i64 (J.gen : Int), .slice Aq J.rs.ents.length cq]] w fun e w' => e = .returned (.bool true) ∧ Below w.heap.size w w' := by
  obtain ⟨Y, Q, bp, O, S, bv, h1, hY, h3, hJi, q, hq, rfl⟩ := h
  obtain ⟨nv, xv, pv, qs, hrp, _⟩ := h1.ref
  obtain ⟨Ap, cp, rfl, hpc⟩ := pins_cells hrp.pins
  have hpl : i < Y.pins.length := (List.getElem?_eq_some_iff.1 hJi).1
  have hql : qs.length = Y.pins.length := by
    have := congrArg List.length hrp.pl
    rw [List.length_map] at this
    rw [this]
    show (pinsR Y.pins).length = _
    unfold pinsR
    rw [List.length_map]
  have hiq : i < qs.length := by omega
  obtain ⟨gq, rfl, q0, q1, q2⟩ := hpc i _ (List.getElem?_eq_getElem hiq)
  have hqi : qs[i].1 = (J.rs, true) := by
    have h1 : (qs.map (·.1))[i]? = (pinsR Y.pins)[i]? := by rw [hrp.pl]; rfl
    rw [List.getElem?_map, List.getElem?_eq_getElem hiq] at h1
    unfold pinsR at h1
    rw [List.getElem?_map, hJi] at h1
    simpa using h1
  have hpE := hrp.pe _ (List.getElem_mem hiq)
  rw [hqi] at hpE q0
  obtain ⟨Aq, cq, hv⟩ := hpE.slice
  rw [hv] at hpE q1
  have hpen : Y.sto.disk.pending.length ≤ 1000000000 := by
    show Y.disk.pending.length ≤ 1000000000
    rw [hY.pend]
    exact Nat.zero_le _
  have h100 := hY.pins
  have hm := hY.m100
  have hl := hY.liveJ (List.mem_cons_of_mem _ (mem_heldJ (List.mem_of_getElem? hJi)) : J ∈ Y.live)
  have hsp : Y.sto.pins[heldTo Y.pins i]? = some J.st := by
    show ((heldJ Y.pins).map JSt.st)[_]? = _
    rw [List.getElem?_map, (heldJ_off hJi).2]
    rfl
  exact ⟨gq, qs.length, cp, Aq, cq, hiq, by omega, ⟨Blk.cell h1.bench 2, hrp.blk.cell 6, q0, q1⟩, pinned_calls h1.sto.a_ (h1.sto.snap hq hsp) hY.alive hl.ok hpen hpE hl.few hl.short hl.keys hl.all⟩
/-- The end: the snapshot is released. -/
def Freed (w0 : World) (g d s r p : Nat) (fr : Int) (w : World) : Prop :=
  ∃ m Y Q bp O S bv, Bn w0 w g d s r Y.sto Q Y.ref bp O S bv ∧ Ok m Y ∧ SnapOff w p ∧ Y.ref.free = fr
theorem Freed.below {p : Nat} {fr : Int} (h : Freed w0 g d s r p fr w) (hb : Below w.heap.size w w') : Freed w0 g d s r p fr w' := by
  obtain ⟨m, Y, Q, bp, O, S, bv, h1, h2, h3, h4⟩ := h
  exact ⟨m, Y, Q, bp, O, S, bv, h1.below hb, h2, Blk.below h3 hb (Blk.lt h3), h4⟩
theorem Freed.bench {p : Nat} {fr : Int} (h : Freed w0 g d s r p fr w) : ∃ bv, BenchAt w g d s r bv := by
  obtain ⟨m, Y, Q, bp, O, S, bv, h1, _⟩ := h
  exact ⟨bv, h1.bench⟩
theorem Freed.kept {p : Nat} {fr : Int} (h : Freed w0 g d s r p fr w) : Below w0.heap.size w0 w := by
  obtain ⟨m, Y, Q, bp, O, S, bv, h1, _⟩ := h
  exact h1.kept
theorem Freed.release {p : Nat} {fr : Int} (h : Freed w0 g d s r p fr w) : Calls Tryz.prog 18 #[.pointer (some ⟨p, 0, none⟩)] w fun e w' => e = .returned (.int .i64 56) ∧ Below w.heap.size w w' := by
  obtain ⟨m, Y, Q, bp, O, S, bv, h1, h2, h3, h4⟩ := h
  exact off_release h3
theorem Freed.free {p : Nat} {fr : Int} (h : Freed w0 g d s r p fr w) : Calls Tryz.prog 19 #[.pointer (some ⟨s, 0, none⟩)] w fun e w' => e = .returned (.int .i64 fr) ∧ Below w.heap.size w w' := by
  obtain ⟨m, Y, Q, bp, O, S, bv, h1, hY, h3, h4⟩ := h
  have := sto_free h1.sto.a_ hY.stNow hY.stPins hY.few_pins
  rw [hY.alive] at this
  simp only [Bool.false_eq_true, if_false, hY.free, h4] at this
  exact this
theorem Freed.freeR {p : Nat} {fr : Int} (h : Freed w0 g d s r p fr w) : Calls Tryz.prog 20 #[.pointer (some ⟨r, 0, none⟩)] w fun e w' => e = .returned (.int .i64 fr) ∧ Below w.heap.size w w' := by
  obtain ⟨m, Y, Q, bp, O, S, bv, h1, hY, h3, h4⟩ := h
  have := ref_free h1.ref hY.refOk.pins hY.refOk.sts hY.refOk.blocks
  rw [h4] at this
  exact this
/-- Behind the reference's Release. -/
def Half (w0 : World) (g d s r p : Nat) (fr : Int) (w : World) : Prop := (∃ bv, BenchAt w g d s r bv) ∧
  ∀ wx, Below w.heap.size w wx → Calls Tryz.prog 18 #[.pointer (some ⟨p, 0, none⟩)] wx fun e w' => e = .returned (.int .i64 0) ∧ Freed w0 g d s r p fr w'
theorem Pinning.half {i p : Nat} {J : JSt} (h : Pinning m w0 g d s r i p J w) : ∃ fr, Calls Tryz.prog 17 #[.pointer (some ⟨r, 0, none⟩), .int .i64 (i : Int)] w fun e w' => e = .returned (.tuple #[]) ∧ Half w0 g d s r p fr w' := by
  obtain ⟨Y, Q, bp, O, S, bv, hB, hY, h3, hJi, q, hq, rfl⟩ := h
  refine ⟨(Y.rel i).ref.free, ?_⟩
  have hpl : i < Y.ref.pins.length := by
    show i < (pinsR Y.pins).length
    unfold pinsR
    rw [List.length_map]
    exact (List.getElem?_eq_some_iff.1 hJi).1
  refine (ref_release hB.ref i hpl hY.refOk.pins).mono ?_
  rintro e w5 ⟨rfl, hr⟩
  obtain ⟨S', b1, b2, b3⟩ := hB.ref_step (R' := (Y.rel i).ref) (by rw [rel_ref]; exact hr)
  refine ⟨rfl, ⟨bv, b1.bench⟩, fun wx hx => ?_⟩
  have hB5 := b1.below hx
  have hsp : Y.sto.pins[heldTo Y.pins i]? = some J.st := by
    show ((heldJ Y.pins).map JSt.st)[_]? = _
    rw [List.getElem?_map, (heldJ_off hJi).2]
    rfl
  have hql : Q.length ≤ 1000 := by
    rw [hB5.sto.qlen]
    exact hY.few_pins
  refine (ston_release hB5.sto hq hB5.nod hql).mono ?_
  rintro e w6 ⟨rfl, h1, h2, h3⟩
  have hsx : ({ Y.sto with pins := Y.sto.pins.eraseIdx (heldTo Y.pins i) } : Sto) = (Y.rel i).sto := by
    show ({ Y.sto with pins := ((heldJ Y.pins).map JSt.st).eraseIdx (heldTo Y.pins i) } : Sto) = ({ Y.sto with pins := (heldJ (offAt Y.pins i)).map JSt.st } : Sto)
    rw [(heldJ_off hJi).1, eraseIdx_map_]
  rw [hsx] at h1
  have hsn := hB5.sto.snap hq hsp
  exact ⟨rfl, m, Y.rel i, _, bp, O, S', bv, hB5.rel_step h1 (List.mem_of_getElem? hq) hsn h3, hY.rel i, h2, rfl⟩
/-- The snapshot is taken, of both. -/
theorem Play.snap_few (h : Play m w0 g d s r n w) (hm : m + 1 ≤ 100) : ∃ i : Nat, (∃ bv, BenchAt w g d s r bv) ∧
    ((Calls Tryz.prog 14 #[.pointer (some ⟨s, 0, none⟩)] w (fun e w' => e = .returned (.tuple #[.pointer none, .int .i64 4]) ∧ Below w.heap.size w w') ∧
      (∀ wx, Below w.heap.size w wx → Calls Tryz.prog 15 #[.pointer (some ⟨r, 0, none⟩)] wx fun e w' => e = .returned (.tuple #[.int .i64 0, .int .i64 4]) ∧ Below wx.heap.size wx w')) ∨
    (∃ C : Nat → World → Prop, ∃ J, Calls Tryz.prog 14 #[.pointer (some ⟨s, 0, none⟩)] w (fun e w' => ∃ p, e = .returned (.tuple #[.pointer (some ⟨p, 0, none⟩), .int .i64 0]) ∧ C p w' ∧ ∃ bv, BenchAt w' g d s r bv) ∧
      (∀ p wx, C p wx → Calls Tryz.prog 15 #[.pointer (some ⟨r, 0, none⟩)] wx fun e w' => e = .returned (.tuple #[.int .i64 (i : Int), .int .i64 0]) ∧ Pinning (m + 1) w0 g d s r i p J w'))) := by
  obtain ⟨Y, Q, bp, O, S, bv, hB, hY, h0, hn, hp, hpf⟩ := h
  refine ⟨Y.pins.length, ⟨bv, hB.bench⟩, ?_⟩
  rcases Nat.lt_or_ge Y.sto.pins.length 16 with hfew | hfull
  · refine .inr ⟨fun p w' => ∃ a mb O', Bn w0 w' g d s r Y.snap.sto (Q ++ [(p, a, mb)]) Y.ref bp O' S bv, Y.now, ?_, ?_⟩
    · refine (ston_snapshot hB.sto hY.alive hfew).mono ?_
      rintro e w' ⟨p, a, mb, e1, e2, e3, e4⟩
      obtain ⟨O', b1, _⟩ := hB.snap_ (X' := Y.snap.sto) e2 e3 (by rw [snap_sto]; exact e4)
      exact ⟨p, e1, ⟨a, mb, O', b1⟩, bv, b1.bench⟩
    · rintro p wx ⟨a, mb, O', b1⟩
      refine (ref_snapshot b1.ref hY.refOk.pins).mono fun e w' hr => ?_
      obtain ⟨e1, e2⟩ := hr.2 (by rw [held_len]; exact hfew)
      obtain ⟨S', c1, _⟩ := b1.ref_step (R' := Y.snap.ref) (by rw [snap_ref]; exact e2)
      have hQ : Q.length = heldTo Y.pins Y.pins.length := by
        rw [hB.sto.qlen, ← held_len]
        show heldTo (pinsR Y.pins) (pinsR Y.pins).length = _
        rw [heldTo_pinsR]
        unfold pinsR
        rw [List.length_map]
      have hl : Y.ref.pins.length = Y.pins.length := by
        show (pinsR Y.pins).length = _
        unfold pinsR
        rw [List.length_map]
      refine ⟨by rw [← hl]; exact e1, Y.snap, _, bp, O', S', bv, c1, hY.snap hm, h0, ?_, (p, a, mb), ?_, rfl⟩
      · show (Y.pins ++ [(Y.now, true)])[Y.pins.length]? = _
        rw [List.getElem?_append_right (Nat.le_refl _), Nat.sub_self]
        rfl
      · show (Q ++ [(p, a, mb)])[heldTo (Y.pins ++ [(Y.now, true)]) Y.pins.length]? = _
        rw [heldTo_append _ _ (Nat.le_refl _), ← hQ, List.getElem?_append_right (Nat.le_refl _), Nat.sub_self]
        rfl
  · refine .inl ⟨sto_snapshot_full hB.sto.a_ hY.alive hfull hY.few_pins, fun wx hb => ?_⟩
    exact (ref_snapshot (hB.ref.below hb) hY.refOk.pins).mono fun e w' hr => hr.1 (by rw [held_len]; exact hfull)
end

end Go.Proofs.YtbgiklkpinflaaaGreat
