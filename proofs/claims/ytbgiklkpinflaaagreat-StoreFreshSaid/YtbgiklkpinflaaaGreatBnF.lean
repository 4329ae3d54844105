/- The bench: a store beside its specification, whole. The law's functions: sameKeys, reads. What the plain law tells of a bench; fits. -/
import Derived.Test.YtbgiklkpinflaaaGreatRsE
import Derived.Test.YtbgiklkpinflaaaGreatRelA
import Derived.Test.YtbgiklkpinflaaaGreatDamaged
import Derived.Test.YtbgiklkpinflaaaGreatDelA
import Derived.Test.YtbgiklkpinflaaaGreatJoB

namespace Go.Proofs.YtbgiklkpinflaaaGreat
open Go.RowKit Go.Shelf Go.Maps
attribute [local go_sem ↓] Go.wp_at_zero Go.wp_at_succ

def bptrs (bp : List Nat) : List Value := bp.map fun p => .pointer (some ⟨p, 0, none⟩)
/-- The bench in block g; all of it was made since w0. -/
structure Bn (w0 w : World) (g d s r : Nat) (X : Sto) (Q : List PinPlace) (R : RSto) (bp : List Nat) (O S : List Nat) (bv : Value) : Prop where
  size : w0.heap.size ≤ w.heap.size
  kept : Below w0.heap.size w0 w
  sto : StoN (w0.heap.size ≤ ·) w s d X Q O
  nod : (Q.map (·.1)).Nodup
  qs : ∀ q ∈ Q, w0.heap.size ≤ q.1 ∧ q.1 < w.heap.size
  ref : RefAt w r R S
  bench : BenchAt w g d s r bv
  row : w.ownsRow w0.heap.size 31 1 bv bp.length (bptrs bp)
  apart : ∀ k, bv.ownBlock = some k → k ∉ O
  newO : ∀ k ∈ O, w0.heap.size ≤ k
  newS : ∀ k ∈ S, w0.heap.size ≤ k
  newg : w0.heap.size ≤ g
/-- The blocks that a call of the bench may write. -/
def foot (g : Nat) (O S : List Nat) (bv : Value) (k : Nat) : Prop := k = g ∨ bv.ownBlock = some k ∨ k ∈ O ∨ k ∈ S
section
variable {w0 w w' : World} {g d s r : Nat} {X X' : Sto} {Q Q' : List PinPlace} {R R' : RSto} {bp : List Nat} {O O' S S' : List Nat} {bv : Value} {F : Nat → Prop}
theorem Bn.ltO (h : Bn w0 w g d s r X Q R bp O S bv) : ∀ k ∈ O, ∀ t cs, Blk w k t cs → t = 100 ∨ t = 94 ∨ t = 89 ∨ t = 138 ∨ t = 31 := fun k hk => h.sto.a_.own k hk
/-- What is kept where blocks of other kinds turn. -/
theorem Bn.keeps (h : Bn w0 w g d s r X Q R bp O S bv) (k : Keeps F w w') (hF : ∀ q, F q → w0.heap.size ≤ q ∧ ¬ foot g O S bv q ∧ ∃ t cs, Blk w q t cs ∧ t ≠ 3 ∧ t ≠ 133 ∧ t ≠ 103 ∧ t ≠ 5 ∧ t ≠ 114) : Bn w0 w' g d s r X Q R bp O S bv := by
  refine ⟨Nat.le_trans h.size k.size, below_keeps h.kept k h.size fun q hq => (hF q hq).1, h.sto.keeps k fun q hq => ?_, h.nod, fun q hq => ⟨(h.qs q hq).1, Nat.lt_of_lt_of_le (h.qs q hq).2 k.size⟩, h.ref.keeps k (fun q hq e => (hF q hq).2.1 (.inr (.inr (.inr e)))) fun q t cs hq hb => ?_, Blk.keeps h.bench k fun e => (hF g e).2.1 (.inl rfl), ownsRow_keeps h.row k fun q hq e => (hF q e).2.1 (.inr (.inl hq)), h.apart, h.newO, h.newS, h.newg⟩
  · obtain ⟨h1, h2, t, cs, hb, a1, a2, a3, a4, a5⟩ := hF q hq
    exact ⟨fun e => h2 (.inr (.inr (.inl e))), t, cs, hb, a1, a2, a3, fun e => absurd e a4⟩
  · obtain ⟨h1, h2, t', cs', hb', a1, a2, a3, a4, a5⟩ := hF q hq
    rw [(hb.det hb').2]
    exact ⟨a5, a4⟩
theorem Bn.below (h : Bn w0 w g d s r X Q R bp O S bv) (hb : Below w.heap.size w w') : Bn w0 w' g d s r X Q R bp O S bv := h.keeps (F := fun _ => False) (Keeps.of_below hb) fun _ h => h.elim
/-- A call of the store. -/
theorem Bn.sto_step (h : Bn w0 w g d s r X Q R bp O S bv) (hp : StoNPost (w0.heap.size ≤ ·) w s d X' Q' O w') (hn : (Q'.map (·.1)).Nodup) (hq : ∀ q ∈ Q', w0.heap.size ≤ q.1 ∧ q.1 < w'.heap.size) :
    ∃ O', Bn w0 w' g d s r X' Q' R bp O' S bv ∧ (∀ k ∈ O', k ∈ O ∨ w.heap.size ≤ k) ∧ Keeps (· ∈ O) w w' := by
  obtain ⟨O', h1, h2, k⟩ := hp
  have hO := h.ltO
  have hblk : ∀ q ∈ O, ∀ t cs, Blk w q t cs → t ≠ 51 ∧ t ≠ 48 ∧ t ≠ 114 ∧ t ≠ 5 ∧ t ≠ 39 := fun q hq t cs hb => by
    rcases hO q hq t cs hb with e | e | e | e | e
    all_goals
      subst e
      exact ⟨by decide, by decide, by decide, by decide, by decide⟩
  have hS : ∀ q, q ∈ O → q ∉ S := fun q hq hs => by
    obtain ⟨t, cs, hb, ht⟩ := h.ref.own q hs
    obtain ⟨a1, a2, _⟩ := hblk q hq t cs hb
    rcases ht with e | e
    · exact a1 e
    · exact a2 e
  refine ⟨O', ⟨Nat.le_trans h.size k.size, below_keeps h.kept k h.size h.newO, h1, hn, hq, h.ref.keeps k hS fun q t cs hq hb => ⟨(hblk q hq t cs hb).2.2.1, (hblk q hq t cs hb).2.2.2.1⟩, Blk.keeps h.bench k fun e => (hblk g e _ _ h.bench).2.2.2.2 rfl, ownsRow_keeps h.row k fun q hq e => h.apart q hq e, fun q hq e => ?_, fun q hq => ?_, h.newS, h.newg⟩, h2, k⟩
  · rcases h2 q e with e2 | e2
    · exact h.apart q hq e2
    · obtain ⟨cs, hb⟩ := own_is_blk h.row hq
      have := hb.lt
      omega
  · rcases h2 q hq with e2 | e2
    · exact h.newO q e2
    · have := h.size
      omega
/-- A call of the reference. -/
theorem Bn.ref_step (h : Bn w0 w g d s r X Q R bp O S bv) (hp : RefPost w r R' S w') :
    ∃ S', Bn w0 w' g d s r X Q R' bp O S' bv ∧ (∀ k ∈ S', k ∈ S ∨ w.heap.size ≤ k) ∧ Keeps (· ∈ S) w w' := by
  obtain ⟨S', h1, h2, k⟩ := hp
  have hS := h.ref.own
  have hblk : ∀ q ∈ S, ∀ t cs, Blk w q t cs → t = 51 ∨ t = 48 := fun q hq t cs hb => by
    obtain ⟨t', cs', hb', ht⟩ := hS q hq
    rw [(hb.det hb').2]
    exact ht
  have hO : ∀ q, q ∈ S → q ∉ O := fun q hs hq => by
    obtain ⟨t, cs, hb, ht⟩ := hS q hs
    rcases h.ltO q hq t cs hb with e | e | e | e | e
    all_goals
      subst e
      rcases ht with e | e
      all_goals exact absurd e (by decide)
  refine ⟨S', ⟨Nat.le_trans h.size k.size, below_keeps h.kept k h.size h.newS, h.sto.keeps k fun q hq => ?_, h.nod, fun q hq => ⟨(h.qs q hq).1, Nat.lt_of_lt_of_le (h.qs q hq).2 k.size⟩, h1, Blk.keeps h.bench k fun e => ?_, ownsRow_keeps h.row k fun q hq e => ?_, h.apart, h.newO, fun q hq => ?_, h.newg⟩, h2, k⟩
  · obtain ⟨t, cs, hb, ht⟩ := hS q hq
    refine ⟨hO q hq, t, cs, hb, ?_⟩
    rcases ht with e | e
    all_goals
      subst e
      exact ⟨by decide, by decide, by decide, fun e => absurd e (by decide)⟩
  · rcases hblk g e _ _ h.bench with e | e
    all_goals exact absurd e (by decide)
  · obtain ⟨cs, hb⟩ := own_is_blk h.row hq
    rcases hblk q e _ _ hb with e | e
    all_goals exact absurd e (by decide)
  · rcases h2 q hq with e2 | e2
    · exact h.newS q e2
    · have := h.size
      omega
end

/-! ### The bench's snapshots and those of the reference -/
structure PinsRel (w : World) (pins : List (JSt × Bool)) (Q : List PinPlace) (bp : List Nat) : Prop where
  len : bp.length = pins.length
  held : ∀ (i p : Nat) (J : JSt), bp[i]? = some p → pins[i]? = some (J, true) → ∃ q, Q[heldTo pins i]? = some q ∧ q.1 = p
  off : ∀ (i p : Nat) (J : JSt), bp[i]? = some p → pins[i]? = some (J, false) → SnapOff w p
theorem PinsRel.keeps {F : Nat → Prop} {w w' : World} {pins : List (JSt × Bool)} {Q : List PinPlace} {bp : List Nat} (h : PinsRel w pins Q bp) (k : Keeps F w w') (hF : ∀ q, F q → ∀ t cs, Blk w q t cs → t ≠ 103) : PinsRel w' pins Q bp :=
  ⟨h.len, h.held, fun i p J hp hJ => Blk.keeps (h.off i p J hp hJ) k fun e => hF p e _ _ (h.off i p J hp hJ) rfl⟩
theorem PinsRel.nil (w : World) : PinsRel w [] [] [] := ⟨rfl, fun i p J h => by simp at h, fun i p J h => by simp at h⟩

end Go.Proofs.YtbgiklkpinflaaaGreat

namespace Go.Proofs.YtbgiklkpinflaaaGreat
open Go.RowKit Go.Shelf Go.Maps
attribute [local go_sem ↓] Go.wp_at_zero Go.wp_at_succ

theorem keyVals_strs (E : List Ent) : (E.map fun e => kb e.key).map encStr = keyVals E := by
  unfold keyVals
  rw [List.map_map]
  rfl
set_option maxRecDepth 100000 in
set_option maxHeartbeats 4000000 in
theorem sameKeys_calls {w : World} {b1 b2 : Nat} {v1 v2 : Value} {E : List Ent} (h1 : w.ownsRow b1 9 1 v1 E.length (keyVals E)) (h2 : w.ownsRow b2 9 1 v2 E.length (keyVals E)) (hl : E.length ≤ 1000000) :
    Calls Tryz.prog 39 #[v1, v2] w fun e w' => e = .returned (.bool true) ∧ Below w.heap.size w w' := by
  obtain ⟨A1, c1, rfl, hc1⟩ := row_cells h1
  obtain ⟨A2, c2, rfl, hc2⟩ := row_cells h2
  have HC1 := Lib.hid hc1
  have HC2 := Lib.hid hc2
  have te : decide ((E.length : Int) = E.length) = true := by simp
  clear h1 h2 hc1 hc2
  go_enter Tryz.func39, Tryz.ntmps39
  go_wp2
  go_loopw [13] (fun x wr => ∃ j : Nat, j ≤ E.length ∧ x = .int .i64 j ∧ Below w.heap.size w wr) (fun x _ => E.length - (intOf x).toNat)
  case atStart => exact ⟨0, Nat.zero_le _, rfl, Below.refl _ _⟩
  case round =>
    obtain ⟨j, hj, rfl, hM⟩ := hrel
    have HM := Lib.hid hM
    by_cases hlt : j < E.length
    · have tk : decide ((j : Int) < (E.length : Int)) = true := by simp; omega
      have hk : (keyVals E)[j]? = some (.string E[j].key) := by simp [keyVals, hlt]
      obtain ⟨g1, rfl, _, q1⟩ := HC1.out j _ hk
      obtain ⟨g2, rfl, _, q2⟩ := HC2.out j _ hk
      have hj0 : (0 : Int) ≤ (j : Int) := by omega
      have hj1 : (j : Int) < (E.length : Int) := by omega
      have q1 := (hM.cell (World.block_lt_of_cell? w _ q1)).trans q1
      have q2 := (hM.cell (World.block_lt_of_cell? w _ q2)).trans q2
      obtain ⟨k, hk2⟩ : ∃ k, k = E[j].key := ⟨_, rfl⟩
      rw [← hk2] at q1 q2
      clear hk hk2 hM
      go_wp2
      go_region
      go_wp2
      go_roundw
      case rel => exact ⟨j + 1, by omega, by go_num, HM.out.drew_⟩
      case measure => simp [intOf]; omega
    · obtain rfl : j = E.length := by omega
      have tk : decide ((E.length : Int) < E.length) = false := by simp
      clear hM
      go_wp2
      go_ret
      exact ⟨rfl, HM.out⟩

set_option maxRecDepth 100000 in
set_option maxHeartbeats 4000000 in
theorem reads_calls {P : Nat → Prop} {w : World} {s d : Nat} {X : Sto} {O : List Nat} (h : StoA P w s d X O) (hok : StOk X.disk.blocks.length X.now) (hpen : X.disk.pending.length ≤ 1000000000) {v : Value} {E : List Ent} (gen : Int) (hE : EntsAt Any w v E) (hl : E.length ≤ 1000) (hk : ∀ e ∈ E, e.key.size ≤ 64)
    (hg : ∀ e ∈ E, getOf X.life X.disk X.now.places (kb e.key) = (0, e.val)) :
    Calls Tryz.prog 78 #[.pointer (some ⟨s, 0, none⟩), .agg #[.int .i64 gen, v]] w fun e w' => e = .returned (.bool true) ∧ Below w.heap.size w w' := by
  have HG : Hid (∀ wx, Below w.heap.size w wx → ∀ e ∈ E, Calls Tryz.prog 50 #[.pointer (some ⟨s, 0, none⟩), .string e.key] wx (FetchPost wx (0, e.val))) := fun wx hb e he => by
    have := sto_get (h.below hb) hok hpen e.key (by have := hk e he; unfold maxLen; omega)
    rw [show getOf X.life X.disk X.now.places e.key.data.toList = (0, e.val) from hg e he] at this
    exact this
  obtain ⟨ps, hps, h2⟩ := hE
  have hpl : ps.length = E.length := by rw [← hps, List.length_map]
  obtain ⟨A, c, rfl, hrow⟩ := h2.row
  have HROW := Lib.hid hrow
  have HB := Lib.hid h2.2
  have HPS := Lib.hid hps
  have HPL := Lib.hid hpl
  have hpl1 : ps.length ≤ 1000 := by omega
  clear hrow h2 hl hps hpl hg hk h hok hpen
  go_enter Tryz.func78, Tryz.ntmps78
  go_wp2
  go_loopw [12] (fun x wr => ∃ j : Nat, j ≤ ps.length ∧ x = .int .i64 j ∧ Below w.heap.size w wr) (fun x _ => ps.length - (intOf x).toNat)
  case atStart => exact ⟨0, Nat.zero_le _, rfl, (Below.refl _ w).alloc (Nat.le_refl _) _⟩
  case round =>
    obtain ⟨j, hj, rfl, hM⟩ := hrel
    have HM := Lib.hid hM
    by_cases hlt : j < ps.length
    · have tk : decide ((j : Int) < (ps.length : Int)) = true := by simp; omega
      obtain ⟨g, rfl, q0, q1, q2⟩ := HROW.out j _ (List.getElem?_eq_getElem hlt)
      have hB := HB.out _ (List.getElem_mem hlt)
      obtain ⟨gx, cx, curx, hvx, _⟩ := hB.cells
      rw [hvx] at q1 hB
      have q0 := (hM.cell (World.block_lt_of_cell? w _ q0)).trans q0
      have q1 := (hM.cell (World.block_lt_of_cell? w _ q1)).trans q1
      have q2 := (hM.cell (World.block_lt_of_cell? w _ q2)).trans q2
      have hE : ps[j].1 ∈ E := by rw [← HPS.out]; exact List.mem_map.2 ⟨_, List.getElem_mem hlt, rfl⟩
      obtain ⟨x, hx⟩ : ∃ x, x = ps[j] := ⟨_, rfl⟩
      rw [← hx] at q0 q1 q2 hE hB
      have HE := Lib.hid hE
      have HBY := Lib.hid hB
      have hbx := Blk.new wr 114 #[.string x.1.key, .slice (some ⟨gx, 0, none⟩) x.1.val.length cx, .int .i64 (x.1.id : Int)]
      have HBX := Lib.hid hbx
      have HM2 : Hid (∀ o, Below w.heap.size w (wr.alloc o)) := fun o => hM.alloc hM.size _
      have HSZ := Lib.hid hM.size
      clear hM hvx hx hE hB hbx
      go_wp2_with (first
        | (go_at_call 50; refine (HG.out _ (HM2.out _) x.1 HE.out).mono ?_; rintro e w3 ⟨v3, rfl, hg3, hb3⟩; have y1 := (HBX.out.below hb3 HBX.out.lt).cell 1; have HG3 := Lib.hid hg3; have HB3 : Hid (Below w.heap.size w w3) := (HM2.out _).trans (hb3.mono (by simp; have := HSZ.out; omega)); clear hg3 hb3)
        | (go_at_call 58; refine (same_calls (l := x.1.val) (conv_got HG3.out) (conv_bytes (HBY.out.below_ HB3.out))).mono ?_; rintro e w4 ⟨rfl, hb4⟩; have HB4 : Hid (Below w.heap.size w w4) := HB3.out.trans (hb4.mono HB3.out.size); clear hb4))
      go_roundw
      case rel => exact ⟨j + 1, by omega, by go_num, HB4.out⟩
      case measure => simp [intOf]; omega
    · obtain rfl : j = ps.length := by omega
      have tk : decide ((ps.length : Int) < ps.length) = false := by simp
      clear hM
      go_wp2
      go_ret
      exact ⟨rfl, HM.out⟩

set_option maxRecDepth 100000 in
set_option maxHeartbeats 4000000 in
theorem pinned_calls {P : Nat → Prop} {w : World} {s d : Nat} {X : Sto} {O : List Nat} (h : StoA P w s d X O) {p a mb : Nat} {st : St} (hp : SnapAt w p s a mb st) (hdd : isDead X.life X.disk = false) (hok : StOk X.disk.blocks.length st) (hpen : X.disk.pending.length ≤ 1000000000) {v : Value} {E : List Ent} (hE : EntsAt Any w v E) (hl : E.length ≤ 1000) (hk : ∀ e ∈ E, e.key.size ≤ 64)
    (hks : st.keys = E.map fun e => kb e.key) (hg : ∀ e ∈ E, getOf X.life X.disk st.places (kb e.key) = (0, e.val)) :
    Calls Tryz.prog 16 #[.pointer (some ⟨p, 0, none⟩), .agg #[.int .i64 (st.gen : Int), v]] w fun e w' => e = .returned (.bool true) ∧ Below w.heap.size w w' := by
  have HG : Hid (∀ wx, Below w.heap.size w wx → ∀ e ∈ E, Calls Tryz.prog 63 #[.pointer (some ⟨p, 0, none⟩), .string e.key] wx (FetchPost wx (0, e.val))) := fun wx hb e he => by
    have := snap_get (h.below hb) (hp.below hb) hok hpen e.key (by have := hk e he; unfold maxLen; omega)
    rw [show getOf X.life X.disk st.places e.key.data.toList = (0, e.val) from hg e he] at this
    exact this
  have HK : Hid (∀ wx, Below w.heap.size w wx → Calls Tryz.prog 61 #[.pointer (some ⟨p, 0, none⟩)] wx fun e w' => ∃ A c, e = .returned (.tuple #[.slice A E.length c, .int .i64 0]) ∧ w'.ownsRow wx.heap.size 9 1 (.slice A E.length c) E.length (keyVals E) ∧ Below wx.heap.size wx w') := fun wx hb => by
    refine (snap_keys (h.below hb) (hp.below hb) hdd hok).mono ?_
    rintro e w' ⟨v, rfl, h1, h2⟩
    unfold StrsAt at h1
    rw [hks, keyVals_strs, List.length_map] at h1
    obtain ⟨A, c, rfl, _⟩ := own_slice h1
    exact ⟨A, c, rfl, h1, h2⟩
  have HN : Hid (∀ wx, Below w.heap.size w wx → Calls Tryz.prog 62 #[.pointer (some ⟨p, 0, none⟩)] wx fun e w' => e = .returned (.int .i64 (st.gen : Int)) ∧ Below wx.heap.size wx w') := fun wx hb => by
    have := snap_generation (h.below hb) (hp.below hb)
    rw [hdd] at this
    exact this
  have HKR : Hid (∀ wx, Below w.heap.size w wx → Calls Tryz.prog 40 #[.agg #[.int .i64 (st.gen : Int), v]] wx fun e w' => ∃ A c, e = .returned (.slice A E.length c) ∧ w'.ownsRow wx.heap.size 9 1 (.slice A E.length c) E.length (keyVals E) ∧ Below wx.heap.size wx w') := fun wx hb => keysR_calls (hE.below hb) _ hl
  obtain ⟨ps, hps, h2⟩ := hE
  have hpl : ps.length = E.length := by rw [← hps, List.length_map]
  obtain ⟨A, c, rfl, hrow⟩ := h2.row
  have HROW := Lib.hid hrow
  have HB := Lib.hid h2.2
  have HPS := Lib.hid hps
  have HPL := Lib.hid hpl
  have hpl1 : ps.length ≤ 1000 := by omega
  obtain ⟨gen, hgen⟩ : ∃ gen : Nat, gen = st.gen := ⟨_, rfl⟩
  rw [← hgen] at HN HKR ⊢
  rw [hpl] at HKR ⊢
  have hbox := Blk.new w 46 #[.int .i64 (gen : Int), .slice A E.length c]
  have HBOX : Hid (∀ wx, Below (w.heap.size + 1) (w.alloc (.cells #[.int .i64 (gen : Int), .slice A E.length c] 46)) wx → wx.cell? ⟨w.heap.size, 0, none⟩ = some (.int .i64 (gen : Int)) ∧ wx.cell? ⟨w.heap.size, 1, none⟩ = some (.slice A E.length c)) := fun wx hb => ⟨(hbox.below hb (by simp)).cell 0, (hbox.below hb (by simp)).cell 1⟩
  have HA : Hid (∀ wx, Below (w.heap.size + 1) (w.alloc (.cells #[.int .i64 (gen : Int), .slice A E.length c] 46)) wx → Below w.heap.size w wx) := fun wx hb => ((Below.refl _ w).alloc (Nat.le_refl _) _).trans (hb.mono (by omega))
  have H0 : Hid (Below (w.heap.size + 1) (w.alloc (.cells #[.int .i64 (gen : Int), .slice A E.length c] 46)) (w.alloc (.cells #[.int .i64 (gen : Int), .slice A E.length c] 46))) := Below.refl _ _
  clear hrow h2 hps hpl hg hk h hok hpen hgen hbox hks hdd hp
  go_enter Tryz.func16, Tryz.ntmps16
  go_wp2_with (go_at_call 61; refine (HK.out _ (HA.out _ H0.out)).mono ?_; rintro e w1 ⟨A1, c1, rfl, ho1, hb1⟩; have HO1 := Lib.hid ho1; have H1 : Hid (Below (w.heap.size + 1) (w.alloc (.cells #[.int .i64 (gen : Int), .slice A E.length c] 46)) w1) := H0.out.trans (hb1.mono (by simp)); clear ho1 hb1)
  obtain ⟨d0, d1⟩ := HBOX.out _ H1.out
  go_region_held3 (fun w' => w'.cell? ⟨w.heap.size, 0, none⟩ = some (.int .i64 (gen : Int)) ∧ w'.cell? ⟨w.heap.size, 1, none⟩ = some (.slice A E.length c)) (go_keep)
    ((first
      | (go_at_call 62; refine (HN.out _ (HA.out _ (H1.out.drewN_ 1))).mono ?_; rintro e w2 ⟨rfl, hb2⟩; have H2 : Hid (Below (w.heap.size + 1) (w.alloc (.cells #[.int .i64 (gen : Int), .slice A E.length c] 46)) w2) := (H1.out.drewN_ 1).trans (hb2.mono (by have := H1.out.size; simp at this ⊢; omega)); have HO2 := Lib.hid (ownsRow_keeps HO1.out (Keeps.of_belowD hb2) (fun _ _ h => h)); obtain ⟨e0, e1⟩ := HBOX.out _ H2.out; clear hb2)
      | (go_at_call 40; refine (HKR.out _ (HA.out _ H2.out)).mono ?_; rintro e w3 ⟨A3, c3, rfl, ho3, hb3⟩; have H3 : Hid (Below (w.heap.size + 1) (w.alloc (.cells #[.int .i64 (gen : Int), .slice A E.length c] 46)) w3) := H2.out.trans (hb3.mono (by have := H2.out.size; simp at this ⊢; omega)); have HO3 := Lib.hid ho3; have HO3a := Lib.hid (ownsRow_keeps HO2.out (Keeps.of_below (F := fun _ => False) hb3) (fun _ _ h => h)); obtain ⟨f0, f1⟩ := HBOX.out _ H3.out; clear hb3 ho3)
      | (go_at_call 39; refine (sameKeys_calls HO3a.out HO3.out (by omega)).mono ?_; rintro e w4 ⟨rfl, hb4⟩; have H4 : Hid (Below (w.heap.size + 1) (w.alloc (.cells #[.int .i64 (gen : Int), .slice A E.length c] 46)) w4) := H3.out.trans (hb4.mono (by have := H3.out.size; simp at this ⊢; omega)); obtain ⟨k0, k1⟩ := HBOX.out _ H4.out; clear hb4)))
  have H4a := Lib.hid (HA.out _ H4.out)
  go_wp2
  have hle : ps.length = E.length := HPL.out
  go_loopw [35] (fun x wr => ∃ j : Nat, j ≤ E.length ∧ x = .int .i64 j ∧ Below w.heap.size w wr) (fun x _ => E.length - (intOf x).toNat)
  case atStart => exact ⟨0, Nat.zero_le _, rfl, H4a.out⟩
  case round =>
    obtain ⟨j, hj, rfl, hM⟩ := hrel
    have HM := Lib.hid hM
    by_cases hlt : j < E.length
    · have tk : decide ((j : Int) < (E.length : Int)) = true := by simp; omega
      have hltp : j < ps.length := by omega
      obtain ⟨g, rfl, q0, q1, q2⟩ := HROW.out j _ (List.getElem?_eq_getElem hltp)
      have hB := HB.out _ (List.getElem_mem hltp)
      obtain ⟨gx, cx, curx, hvx, _⟩ := hB.cells
      rw [hvx] at q1 hB
      have q0 := (hM.cell (World.block_lt_of_cell? w _ q0)).trans q0
      have q1 := (hM.cell (World.block_lt_of_cell? w _ q1)).trans q1
      have q2 := (hM.cell (World.block_lt_of_cell? w _ q2)).trans q2
      have hE : ps[j].1 ∈ E := by rw [← HPS.out]; exact List.mem_map.2 ⟨_, List.getElem_mem hltp, rfl⟩
      obtain ⟨x, hx⟩ : ∃ x, x = ps[j] := ⟨_, rfl⟩
      rw [← hx] at q0 q1 q2 hE hB
      have HE := Lib.hid hE
      have HBY := Lib.hid hB
      have hbx := Blk.new wr 114 #[.string x.1.key, .slice (some ⟨gx, 0, none⟩) x.1.val.length cx, .int .i64 (x.1.id : Int)]
      have HBX := Lib.hid hbx
      have HM2 : Hid (∀ o, Below w.heap.size w (wr.alloc o)) := fun o => hM.alloc hM.size _
      have HSZ := Lib.hid hM.size
      clear hM hvx hx hE hB hbx hle
      go_wp2_with (first
        | (go_at_call 63; refine (HG.out _ (HM2.out _) x.1 HE.out).mono ?_; rintro e w3 ⟨v3, rfl, hg3, hb3⟩; have y1 := (HBX.out.below hb3 HBX.out.lt).cell 1; have HG3 := Lib.hid hg3; have HB3 : Hid (Below w.heap.size w w3) := (HM2.out _).trans (hb3.mono (by simp; have := HSZ.out; omega)); clear hg3 hb3)
        | (go_at_call 58; refine (same_calls (l := x.1.val) (conv_got HG3.out) (conv_bytes (HBY.out.below_ HB3.out))).mono ?_; rintro e w4 ⟨rfl, hb4⟩; have HB4 : Hid (Below w.heap.size w w4) := HB3.out.trans (hb4.mono HB3.out.size); clear hb4))
      go_roundw
      case rel => exact ⟨j + 1, by omega, by go_num, HB4.out⟩
      case measure => simp [intOf]; omega
    · obtain rfl : j = E.length := by omega
      have tk : decide ((E.length : Int) < E.length) = false := by simp
      clear hM hle
      go_wp2
      go_ret
      exact ⟨rfl, HM.out⟩

end Go.Proofs.YtbgiklkpinflaaaGreat

namespace Go.Proofs.YtbgiklkpinflaaaGreat
open Go.RowKit Go.Shelf Go.Maps
attribute [local go_sem ↓] Go.wp_at_zero Go.wp_at_succ

section
variable {m : Nat} {Y : Joint}
/-- What a state that is alive has. -/
structure Live (Y : Joint) (J : JSt) : Prop where
  ok : StOk Y.sto.disk.blocks.length J.st
  keys : J.st.keys = J.rs.ents.map fun e => kb e.key
  short : ∀ e ∈ J.rs.ents, e.key.size ≤ 64
  few : J.rs.ents.length ≤ 1000
  all : ∀ e ∈ J.rs.ents, getOf Y.sto.life Y.sto.disk J.st.places (kb e.key) = (0, e.val)
  get : ∀ k, getOf Y.sto.life Y.sto.disk J.st.places (kb k) = getR J.rs k
theorem Ok.liveJ (h : Ok m Y) {J : JSt} (hJ : J ∈ Y.live) : Live Y J := by
  obtain ⟨own, hw⟩ := h.own
  have hj := hw.ok J hJ
  have hf : ∀ ps k, getOf Y.sto.life Y.sto.disk ps k = Y.disk.fetch ps k := fun ps k => by
    unfold getOf
    rw [h.alive]
    simp only [Bool.false_eq_true, if_false]
    rfl
  refine ⟨h.stOk J hJ, ?_, ?_, ?_, ?_, ?_⟩
  · show (J.ents.map fun x => (kb x.1.key, x.2)).map (·.1) = (J.ents.map (·.1)).map _
    rw [List.map_map, List.map_map]
    rfl
  · intro e he
    exact (hj.entOk e he).1
  · show (J.ents.map (·.1)).length ≤ 1000
    rw [List.length_map]
    have := hj.few
    omega
  · intro e he
    obtain ⟨x, hx, rfl⟩ := List.mem_map.1 he
    rw [hf]
    exact (hj.holds x hx).fetch (hj.srt.get_some hx)
  · intro k
    rw [hf]
    exact hj.get k
theorem Ok.liveNow (h : Ok m Y) : Live Y Y.now := h.liveJ (by simp [Joint.live])
theorem addSt_mem : ∀ {pins : List (RSt × Bool)} {out : List RSt} {t : RSt}, t ∈ pins.foldl addSt out → t ∈ out ∨ (t, true) ∈ pins
  | [], _, _, h => .inl h
  | p :: r, out, t, h => by
    rcases addSt_mem (pins := r) h with h | h
    · unfold addSt at h
      split at h
      · rename_i hc
        rcases List.mem_append.1 h with h | h
        · exact .inl h
        · rw [List.mem_singleton] at h
          subst h
          have : p.2 = true := by
            rw [Bool.and_eq_true] at hc
            exact hc.1
          exact .inr (by rw [← this]; simp)
      · exact .inl h
    · exact .inr (List.mem_cons_of_mem _ h)
theorem mem_heldJ {pins : List (JSt × Bool)} {J : JSt} (h : (J, true) ∈ pins) : J ∈ heldJ pins :=
  List.mem_map.2 ⟨(J, true), List.mem_filter.2 ⟨h, rfl⟩, rfl⟩
theorem Ok.refOk (h : Ok m Y) : RefOk Y.ref := by
  have h100 := h.m100
  obtain ⟨own, hw⟩ := h.own
  have hst : ∀ J ∈ Y.live, J.rs.ents.length ≤ 100 ∧ ∀ e ∈ J.rs.ents, EntOk e := fun J hJ => ⟨by
    show (J.ents.map (·.1)).length ≤ 100
    rw [List.length_map]
    exact (hw.ok J hJ).few, (hw.ok J hJ).entOk⟩
  refine ⟨?_, ?_, h.n5, ?_, ?_, ?_, ?_⟩
  · show (pinsR Y.pins).length ≤ 1000
    unfold pinsR
    rw [List.length_map]
    have := h.pins
    omega
  · intro t ht
    rcases addSt_mem ht with ht | ht
    · rw [List.mem_singleton] at ht
      rw [ht]
      exact hst Y.now (by simp [Joint.live])
    · obtain ⟨p, hp, he⟩ := List.mem_map.1 ht
      injection he with e1 e2
      have := mem_heldJ (pins := Y.pins) (J := p.1) (by rw [← e2]; exact hp)
      rw [← e1]
      exact hst p.1 (List.mem_cons_of_mem _ this)
  · show EsOk (nextR Y.now Y.trans).ents
    cases ht : Y.trans with
    | none => exact ⟨Nat.zero_le _, fun e he => by simp [nextR] at he⟩
    | some nx =>
      have t := h.trans nx ht
      have hfew := t.few
      refine ⟨?_, fun e he => ?_⟩
      · show (nxEnts nx).length ≤ 100
        unfold nxEnts
        rw [List.length_map]
        omega
      · obtain ⟨x, hx, rfl⟩ := List.mem_map.1 he
        exact ⟨(t.ok.keys x hx).2, t.ok.vals x hx⟩
  · have := (hst Y.now (by simp [Joint.live])).1
    exact Nat.le_trans this (by omega)
  · have := h.gen
    show Y.now.gen ≤ 1000000
    omega
  · have := h.last
    show Y.last ≤ 1000000
    omega
end

set_option maxRecDepth 100000 in
set_option maxHeartbeats 8000000 in
theorem fits_calls {m : Nat} {w0 w : World} {g d s r : Nat} {Y : Joint} {Q : List PinPlace} {bp O S : List Nat} {bv : Value} (h : Bn w0 w g d s r Y.sto Q Y.ref bp O S bv) (hY : Ok m Y) :
    Calls Tryz.prog 24 #[.pointer (some ⟨g, 0, none⟩)] w fun e w' => e = .returned (.bool true) ∧ Below w.heap.size w w' := by
  have hL := hY.liveNow
  have hR := hY.refOk
  have hpen : Y.sto.disk.pending.length ≤ 1000000000 := by
    show Y.disk.pending.length ≤ 1000000000
    rw [hY.pend]
    exact Nat.zero_le _
  have hA := h.sto.a_
  obtain ⟨nv, xv, pv, qs, hrp, _⟩ := h.ref
  obtain ⟨An, cn, rfl⟩ := hrp.now.slice
  obtain ⟨E, hE⟩ : ∃ E, E = Y.ref.now.ents := ⟨_, rfl⟩
  obtain ⟨gen, hgen⟩ : ∃ gen, gen = Y.ref.now.gen := ⟨_, rfl⟩
  obtain ⟨fr, hfr⟩ : ∃ fr, fr = Y.ref.free := ⟨_, rfl⟩
  have HC : Hid (∀ wx, Below w.heap.size w wx → wx.cell? ⟨g, 1, none⟩ = some (.pointer (some ⟨s, 0, none⟩)) ∧ wx.cell? ⟨g, 2, none⟩ = some (.pointer (some ⟨r, 0, none⟩)) ∧ wx.cell? ⟨r, 1, none⟩ = some (.int .i64 (gen : Int)) ∧ wx.cell? ⟨r, 2, none⟩ = some (.slice An E.length cn)) := fun wx hb => by
    have hb1 := Blk.below h.bench hb (Blk.lt h.bench)
    have hb2 := hrp.blk.below hb hrp.blk.lt
    rw [hgen, hE]
    exact ⟨hb1.cell 1, hb1.cell 2, hb2.cell 1, hb2.cell 2⟩
  have HK : Hid (∀ wx, Below w.heap.size w wx → Calls Tryz.prog 37 #[.pointer (some ⟨s, 0, none⟩)] wx fun e w' => ∃ A c, e = .returned (.tuple #[.slice A E.length c, .int .i64 0]) ∧ w'.ownsRow wx.heap.size 9 1 (.slice A E.length c) E.length (keyVals E) ∧ Below wx.heap.size wx w') := fun wx hb => by
    refine (sto_keys (hA.below hb) hY.alive hL.ok).mono ?_
    rintro e w' ⟨v, rfl, h1, h2⟩
    unfold StrsAt at h1
    rw [show Y.sto.now.keys = E.map fun e => kb e.key by rw [hE]; exact hL.keys, keyVals_strs, List.length_map] at h1
    obtain ⟨A, c, rfl, _⟩ := own_slice h1
    exact ⟨A, c, rfl, h1, h2⟩
  have HD : Hid (∀ wx, Below w.heap.size w wx → Calls Tryz.prog 77 #[.pointer (some ⟨s, 0, none⟩)] wx fun e w' => (∃ A c, e = .returned (.tuple #[.slice A 0 c, .int .i64 0])) ∧ Below wx.heap.size wx w') := fun wx hb => by
    refine sto_damaged (hA.below hb) hY.alive hL.ok hpen ?_
    intro k hk
    rw [show Y.sto.now.keys = Y.now.rs.ents.map fun e => kb e.key from hL.keys] at hk
    obtain ⟨e, he, rfl⟩ := List.mem_map.1 hk
    have := hL.all e he
    unfold getOf at this
    rw [hY.alive] at this
    exact ⟨_, this⟩
  have HG : Hid (∀ wx, Below w.heap.size w wx → Calls Tryz.prog 38 #[.pointer (some ⟨s, 0, none⟩)] wx fun e w' => e = .returned (.int .i64 (gen : Int)) ∧ Below wx.heap.size wx w') := fun wx hb => by
    have := sto_generation (hA.below hb)
    rw [hY.alive] at this
    rw [hgen]
    exact this
  have HF : Hid (∀ wx, Below w.heap.size w wx → Calls Tryz.prog 19 #[.pointer (some ⟨s, 0, none⟩)] wx fun e w' => e = .returned (.int .i64 fr) ∧ Below wx.heap.size wx w') := fun wx hb => by
    have := sto_free (hA.below hb) hY.stNow hY.stPins hY.few_pins
    rw [hY.alive] at this
    simp only [Bool.false_eq_true, if_false, hY.free] at this
    rw [hfr]
    exact this
  have HKR : Hid (∀ wx, Below w.heap.size w wx → Calls Tryz.prog 40 #[.agg #[.int .i64 (gen : Int), .slice An E.length cn]] wx fun e w' => ∃ A c, e = .returned (.slice A E.length c) ∧ w'.ownsRow wx.heap.size 9 1 (.slice A E.length c) E.length (keyVals E) ∧ Below wx.heap.size wx w') := fun wx hb => by
    have := keysR_calls (hrp.now.below hb) (gen : Int) hR.now
    rw [hE]
    exact this
  have HRF : Hid (∀ wx, Below w.heap.size w wx → Calls Tryz.prog 20 #[.pointer (some ⟨r, 0, none⟩)] wx fun e w' => e = .returned (.int .i64 fr) ∧ Below wx.heap.size wx w') := fun wx hb => by
    have := ref_free (h.ref.below hb) hR.pins hR.sts hR.blocks
    rw [hfr]
    exact this
  have HRD : Hid (∀ wx, Below w.heap.size w wx → Calls Tryz.prog 78 #[.pointer (some ⟨s, 0, none⟩), .agg #[.int .i64 (gen : Int), .slice An E.length cn]] wx fun e w' => e = .returned (.bool true) ∧ Below wx.heap.size wx w') := fun wx hb => by
    have := reads_calls (hA.below hb) hL.ok hpen (gen : Int) (hrp.now.below hb) hR.now hL.short hL.all
    rw [hE]
    exact this
  have hel : E.length ≤ 1000 := by rw [hE]; exact hR.now
  obtain ⟨d1, d2, d3, d4⟩ := HC.out w (Below.refl _ _)
  clear h hY hL hR hpen hA hrp hE hgen hfr
  go_enter Tryz.func24, Tryz.ntmps24
  go_wp2_with (first
    | (go_at_call 37; refine (HK.out _ (Below.refl _ _)).mono ?_; rintro e w1 ⟨A1, c1, rfl, ho1, hb1⟩; have HO1 := Lib.hid ho1; have H1 := Lib.hid hb1; obtain ⟨e1, e2, e3, e4⟩ := HC.out _ hb1; clear ho1 hb1)
    | (go_at_call 77; refine (HD.out _ H1.out).mono ?_; rintro e w2 ⟨⟨A2, c2, rfl⟩, hb2⟩; have H2 : Hid (Below w.heap.size w w2) := H1.out.trans (hb2.mono H1.out.size); have HO2 := Lib.hid (ownsRow_keeps HO1.out (Keeps.of_below (F := fun _ => False) hb2) (fun _ _ h => h)); obtain ⟨f1, f2, f3, f4⟩ := HC.out _ H2.out; clear hb2))
  go_region_held3 (fun w' => w'.cell? ⟨g, 1, none⟩ = some (.pointer (some ⟨s, 0, none⟩)) ∧ w'.cell? ⟨g, 2, none⟩ = some (.pointer (some ⟨r, 0, none⟩)) ∧ w'.cell? ⟨r, 1, none⟩ = some (.int .i64 (gen : Int)) ∧ w'.cell? ⟨r, 2, none⟩ = some (.slice An E.length cn)) (go_keep)
    ((first
      | (go_at_call 40; refine (HKR.out _ (H2.out.drewN_ 1)).mono ?_; rintro e w3 ⟨A3, c3, rfl, ho3, hb3⟩; have H3 : Hid (Below w.heap.size w w3) := (H2.out.drewN_ 1).trans (hb3.mono H2.out.size); have HO3 := Lib.hid ho3; have HO3a := Lib.hid (ownsRow_keeps HO2.out (Keeps.of_belowD hb3) (fun _ _ h => h)); obtain ⟨i1, i2, i3, i4⟩ := HC.out _ H3.out; clear hb3 ho3)
      | (go_at_call 39; refine (sameKeys_calls HO3a.out HO3.out (by omega)).mono ?_; rintro e w4 ⟨rfl, hb4⟩; have H4 : Hid (Below w.heap.size w w4) := H3.out.trans (hb4.mono H3.out.size); obtain ⟨j1, j2, j3, j4⟩ := HC.out _ H4.out; clear hb4)
      | (go_at_call 38; refine (HG.out _ H4.out).mono ?_; rintro e w5 ⟨rfl, hb5⟩; have H5 : Hid (Below w.heap.size w w5) := H4.out.trans (hb5.mono H4.out.size); obtain ⟨k1, k2, k3, k4⟩ := HC.out _ H5.out; clear hb5)
      | (go_at_call 19; refine (HF.out _ H5.out).mono ?_; rintro e w6 ⟨rfl, hb6⟩; have H6 : Hid (Below w.heap.size w w6) := H5.out.trans (hb6.mono H5.out.size); obtain ⟨l1, l2, l3, l4⟩ := HC.out _ H6.out; clear hb6)
      | (go_at_call 20; refine (HRF.out _ H6.out).mono ?_; rintro e w7 ⟨rfl, hb7⟩; have H7 : Hid (Below w.heap.size w w7) := H6.out.trans (hb7.mono H6.out.size); obtain ⟨m1, m2, m3, m4⟩ := HC.out _ H7.out; clear hb7)))
  all_goals
    go_wp2
    go_region_held3 (fun w' => w'.cell? ⟨g, 1, none⟩ = some (.pointer (some ⟨s, 0, none⟩)) ∧ w'.cell? ⟨g, 2, none⟩ = some (.pointer (some ⟨r, 0, none⟩)) ∧ w'.cell? ⟨r, 1, none⟩ = some (.int .i64 (gen : Int)) ∧ w'.cell? ⟨r, 2, none⟩ = some (.slice An E.length cn)) (go_keep)
      ((go_at_call 78; refine (HRD.out _ (H7.out.drewN_ 1)).mono ?_; rintro e w8 ⟨rfl, hb8⟩; have H8 : Hid (Below w.heap.size w w8) := (H7.out.drewN_ 1).trans (hb8.mono H7.out.size); obtain ⟨n1, n2, n3, n4⟩ := HC.out _ H8.out; clear hb8))
    all_goals
      go_wp2
      go_ret
      exact ⟨rfl, H8.out⟩

end Go.Proofs.YtbgiklkpinflaaaGreat
