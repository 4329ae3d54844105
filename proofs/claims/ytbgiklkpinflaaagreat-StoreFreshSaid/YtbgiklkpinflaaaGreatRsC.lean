/- The reference's store in memory: Begin, Delete, Abort, Release; a state's Get. The reference's store: a state's Keys; states. -/
import Derived.Test.YtbgiklkpinflaaaGreatRsB

namespace Go.Proofs.YtbgiklkpinflaaaGreat
open Go.RowKit Go.Shelf
attribute [local go_sem ↓] Go.wp_at_zero Go.wp_at_succ

abbrev Any : Nat → Prop := fun _ => True
def pinCells (qs : List ((RSt × Bool) × Value)) : List Value := qs.flatMap fun q => [.int .i64 (q.1.1.gen : Int), q.2, .bool q.1.2]
theorem pinCells_append (ps qs : List ((RSt × Bool) × Value)) : pinCells (ps ++ qs) = pinCells ps ++ pinCells qs := by simp [pinCells]
theorem pinCells_length (ps : List ((RSt × Bool) × Value)) : (pinCells ps).length = ps.length * 3 := by
  induction ps with
  | nil => rfl
  | cons p ps ih => simp only [pinCells, List.flatMap_cons, List.length_append, List.length_cons, List.length_nil] at ih ⊢; omega
theorem pinCells_at : ∀ (ps : List ((RSt × Bool) × Value)) (j : Nat) (p : (RSt × Bool) × Value), ps[j]? = some p → (pinCells ps)[j * 3]? = some (.int .i64 (p.1.1.gen : Int)) ∧ (pinCells ps)[j * 3 + 1]? = some p.2 ∧ (pinCells ps)[j * 3 + 2]? = some (.bool p.1.2)
  | [], j, p, h => by simp at h
  | q :: ps, 0, p, h => by
    simp only [List.getElem?_cons_zero, Option.some.injEq] at h
    subst h
    exact ⟨rfl, rfl, rfl⟩
  | q :: ps, j + 1, p, h => by
    have ih := pinCells_at ps j p (by simpa using h)
    have e : (j + 1) * 3 = j * 3 + 3 := by omega
    have g : ∀ m, (pinCells (q :: ps))[m + 3]? = (pinCells ps)[m]? := fun m => rfl
    rw [e, show j * 3 + 3 + 1 = (j * 3 + 1) + 3 by omega, show j * 3 + 3 + 2 = (j * 3 + 2) + 3 by omega, g, g, g]
    exact ih
/-- How the reference's store lies in memory. -/
structure RefParts (w : World) (r : Nat) (R : RSto) (nv xv pv : Value) (qs : List ((RSt × Bool) × Value)) : Prop where
  blk : Blk w r 51 #[.int .i64 (R.blocks : Int), .int .i64 (R.now.gen : Int), nv, .int .i64 (R.next.gen : Int), xv, .bool R.opened, pv, .int .i64 (R.last : Int)]
  now : EntsAt Any w nv R.now.ents
  next : EntsAt Any w xv R.next.ents
  pins : w.ownsRow 0 48 3 pv qs.length (pinCells qs)
  pl : qs.map (·.1) = R.pins
  pe : ∀ q ∈ qs, EntsAt Any w q.2 q.1.1.ents
def RefAt (w : World) (r : Nat) (R : RSto) (S : List Nat) : Prop := ∃ nv xv pv qs, RefParts w r R nv xv pv qs ∧ S = r :: pv.ownBlock.toList
def RefPost (w : World) (r : Nat) (R : RSto) (S : List Nat) (w' : World) : Prop := ∃ S', RefAt w' r R S' ∧ (∀ k ∈ S', k ∈ S ∨ w.heap.size ≤ k) ∧ Keeps (· ∈ S) w w'

section
variable {F : Nat → Prop} {w w' : World} {r : Nat} {R : RSto} {nv xv pv : Value} {qs : List ((RSt × Bool) × Value)} {S : List Nat}
theorem EntsAt.keepsT {v : Value} {E : List Ent} (h : EntsAt Any w v E) (k : Keeps F w w') (hF : ∀ g t cs, F g → Blk w g t cs → t ≠ 114 ∧ t ≠ 5) : EntsAt Any w' v E :=
  h.keeps k fun g t cs hg hb => ⟨(hF g t cs hg hb).1, fun _ => (hF g t cs hg hb).2⟩
theorem RefParts.keeps (h : RefParts w r R nv xv pv qs) (k : Keeps F w w') (hS : ∀ g, F g → g ∉ r :: pv.ownBlock.toList) (hF : ∀ g t cs, F g → Blk w g t cs → t ≠ 114 ∧ t ≠ 5) : RefParts w' r R nv xv pv qs :=
  ⟨h.blk.keeps k (fun e => hS _ e (by simp)), h.now.keepsT k hF, h.next.keepsT k hF, ownsRow_keeps h.pins k (fun g hg e => hS _ e (by simp [hg])), h.pl, fun q hq => (h.pe q hq).keepsT k hF⟩
theorem RefAt.keeps (h : RefAt w r R S) (k : Keeps F w w') (hS : ∀ g, F g → g ∉ S) (hF : ∀ g t cs, F g → Blk w g t cs → t ≠ 114 ∧ t ≠ 5) : RefAt w' r R S := by
  obtain ⟨nv, xv, pv, qs, h1, rfl⟩ := h
  exact ⟨nv, xv, pv, qs, h1.keeps k hS hF, rfl⟩
theorem RefAt.below (h : RefAt w r R S) (hb : Below w.heap.size w w') : RefAt w' r R S := h.keeps (F := fun _ => False) (Keeps.of_below hb) (fun _ h => h.elim) (fun _ _ _ h => h.elim)
theorem RefAt.post (h : RefAt w r R S) (hb : Below w.heap.size w w') : RefPost w r R S w' := ⟨S, h.below hb, fun _ hk => .inl hk, Keeps.of_below hb⟩
/-- The reference's own blocks are of two types. -/
theorem RefParts.own (h : RefParts w r R nv xv pv qs) : ∀ g ∈ r :: pv.ownBlock.toList, ∃ t cs, Blk w g t cs ∧ (t = 51 ∨ t = 48) := by
  intro g hg
  simp only [List.mem_cons, Option.mem_toList] at hg
  rcases hg with rfl | hg
  · exact ⟨_, _, h.blk, .inl rfl⟩
  · obtain ⟨cs, hb⟩ := own_is_blk h.pins hg
    exact ⟨_, cs, hb, .inr rfl⟩
theorem RefAt.own (h : RefAt w r R S) : ∀ g ∈ S, ∃ t cs, Blk w g t cs ∧ (t = 51 ∨ t = 48) := by
  obtain ⟨nv, xv, pv, qs, h1, rfl⟩ := h
  exact h1.own
/-- Only the store's struct turns. -/
theorem RefParts.turn (h : RefParts w r R nv xv pv qs) {R' : RSto} {nv' xv' : Value} (k : Keeps (· = r) w w') (hb : Blk w' r 51 #[.int .i64 (R'.blocks : Int), .int .i64 (R'.now.gen : Int), nv', .int .i64 (R'.next.gen : Int), xv', .bool R'.opened, pv, .int .i64 (R'.last : Int)])
    (hn : EntsAt Any w nv' R'.now.ents) (hx : EntsAt Any w xv' R'.next.ents) (hp : R'.pins = R.pins) : RefPost w r R' (r :: pv.ownBlock.toList) w' := by
  have hF : ∀ g t cs, g = r → Blk w g t cs → t ≠ 114 ∧ t ≠ 5 := fun g t cs e hb2 => by
    subst e
    have := (hb2.det h.blk).2
    subst this
    exact ⟨by decide, by decide⟩
  exact ⟨_, ⟨nv', xv', pv, qs, ⟨hb, hn.keepsT k hF, hx.keepsT k hF, ownsRow_keeps h.pins k (fun g hg e => own_blk_ne h.pins h.blk (by decide) (by rw [hg, e])), by rw [h.pl, hp], fun q hq => (h.pe q hq).keepsT k hF⟩, rfl⟩, fun k hk => .inl hk, k.weaken fun g _ e => by subst e; simp⟩
theorem EntsAt.nil (w : World) : EntsAt Any w (.slice none 0 0) [] := ⟨[], rfl, ⟨by simp [entCells], .inl ⟨rfl, rfl⟩⟩, fun p hp => by simp at hp⟩
end

section
variable {w : World} {r : Nat} {R : RSto} {S : List Nat}
set_option maxRecDepth 100000 in
set_option maxHeartbeats 2000000 in
theorem ref_begin_no (h : RefAt w r R S) (ho : R.opened = true) : Calls Tryz.prog 33 #[.pointer (some ⟨r, 0, none⟩)] w fun e w' => e = .returned (.int .i64 54) ∧ Below w.heap.size w w' := by
  obtain ⟨nv, xv, pv, qs, h1, rfl⟩ := h
  have c5 : w.cell? ⟨r, 5, none⟩ = some (.bool true) := by have := h1.blk.cell 5; rw [← ho]; exact this
  clear h1 ho
  go_enter Tryz.func33, Tryz.ntmps33
  go_wp2
  go_ret
  exact ⟨rfl, Below.refl _ _⟩
set_option maxRecDepth 100000 in
set_option maxHeartbeats 2000000 in
theorem ref_begin (h : RefAt w r R S) (ho : R.opened = false) : Calls Tryz.prog 33 #[.pointer (some ⟨r, 0, none⟩)] w fun e w' => e = .returned (.int .i64 0) ∧ RefPost w r R.begin_ S w' := by
  obtain ⟨nv, xv, pv, qs, h1, rfl⟩ := h
  obtain ⟨A, c, rfl⟩ := h1.now.slice
  have HH := Lib.hid h1
  have hb := h1.blk
  rw [ho] at hb
  have HB := Lib.hid hb
  have c1 := hb.cell 1
  have c2 := hb.cell 2
  have c3 := hb.cell 3
  have c4 := hb.cell 4
  have c5 := hb.cell 5
  have f3 := hb.frozen 3
  have f4 := hb.frozen 4
  have f5 := hb.frozen 5
  obtain ⟨Ax, cx, rfl⟩ := h1.next.slice
  clear h1 ho hb
  go_enter Tryz.func33, Tryz.ntmps33
  go_wp2
  go_ret
  refine ⟨rfl, HH.out.turn (R' := R.begin_) (((Keeps.set1 w r 5 _).trans (Keeps.set1 _ r 3 _) (fun _ _ h => h)).trans (Keeps.set1 _ r 4 _) (fun _ _ h => h)) (((HB.out.set_ 5 (.bool true)).set_ 3 _).set_ 4 _) HH.out.now HH.out.now rfl⟩
set_option maxRecDepth 100000 in
set_option maxHeartbeats 2000000 in
theorem ref_abort_no (h : RefAt w r R S) (ho : R.opened = false) : Calls Tryz.prog 56 #[.pointer (some ⟨r, 0, none⟩)] w fun e w' => e = .returned (.int .i64 54) ∧ Below w.heap.size w w' := by
  obtain ⟨nv, xv, pv, qs, h1, rfl⟩ := h
  have c5 : w.cell? ⟨r, 5, none⟩ = some (.bool false) := by have := h1.blk.cell 5; rw [← ho]; exact this
  clear h1 ho
  go_enter Tryz.func56, Tryz.ntmps56
  go_wp2
  go_ret
  exact ⟨rfl, Below.refl _ _⟩
set_option maxRecDepth 100000 in
set_option maxHeartbeats 2000000 in
theorem ref_abort (h : RefAt w r R S) (ho : R.opened = true) : Calls Tryz.prog 56 #[.pointer (some ⟨r, 0, none⟩)] w fun e w' => e = .returned (.int .i64 0) ∧ RefPost w r R.abort S w' := by
  obtain ⟨nv, xv, pv, qs, h1, rfl⟩ := h
  have HH := Lib.hid h1
  have hb := h1.blk
  rw [ho] at hb
  have HB := Lib.hid hb
  have c3 := hb.cell 3
  have c4 := hb.cell 4
  have c5 := hb.cell 5
  have f3 := hb.frozen 3
  have f4 := hb.frozen 4
  have f5 := hb.frozen 5
  obtain ⟨Ax, cx, rfl⟩ := h1.next.slice
  clear h1 ho hb
  go_enter Tryz.func56, Tryz.ntmps56
  go_wp2
  go_ret
  refine ⟨rfl, HH.out.turn (R' := R.abort) (((Keeps.set1 w r 5 _).trans (Keeps.set1 _ r 3 _) (fun _ _ h => h)).trans (Keeps.set1 _ r 4 _) (fun _ _ h => h)) (((HB.out.set_ 5 (.bool false)).set_ 3 _).set_ 4 _) HH.out.now (EntsAt.nil w) rfl⟩
set_option maxRecDepth 100000 in
set_option maxHeartbeats 2000000 in
theorem ref_delete_no (h : RefAt w r R S) (ho : R.opened = false) (k : ByteArray) : Calls Tryz.prog 54 #[.pointer (some ⟨r, 0, none⟩), .string k] w fun e w' => e = .returned (.int .i64 54) ∧ Below w.heap.size w w' := by
  obtain ⟨nv, xv, pv, qs, h1, rfl⟩ := h
  have c5 : w.cell? ⟨r, 5, none⟩ = some (.bool false) := by have := h1.blk.cell 5; rw [← ho]; exact this
  clear h1 ho
  go_enter Tryz.func54, Tryz.ntmps54
  go_wp2
  go_ret
  exact ⟨rfl, Below.refl _ _⟩
set_option maxRecDepth 100000 in
set_option maxHeartbeats 2000000 in
theorem ref_delete_nokey (h : RefAt w r R S) (ho : R.opened = true) (k : ByteArray) (hl : R.next.ents.length ≤ 1000) (hn : findInt R.next.ents k < 0) : Calls Tryz.prog 54 #[.pointer (some ⟨r, 0, none⟩), .string k] w fun e w' => e = .returned (.int .i64 55) ∧ Below w.heap.size w w' := by
  obtain ⟨nv, xv, pv, qs, h1, rfl⟩ := h
  obtain ⟨Ax, cx, rfl⟩ := h1.next.slice
  have HX := Lib.hid (find_calls h1.next (R.next.gen : Int) k (by omega))
  have c5 : w.cell? ⟨r, 5, none⟩ = some (.bool true) := by have := h1.blk.cell 5; rw [← ho]; exact this
  have c3 := h1.blk.cell 3
  have c4 := h1.blk.cell 4
  have tk : decide (findInt R.next.ents k < 0) = true := by simpa using hn
  clear h1 ho hn
  go_enter Tryz.func54, Tryz.ntmps54
  go_wp2_with (go_at_call 81; refine HX.out.mono ?_; rintro e w2 ⟨rfl, hb2⟩; have HB2 := Lib.hid hb2; clear hb2)
  go_ret
  exact ⟨rfl, HB2.out⟩
set_option maxRecDepth 100000 in
set_option maxHeartbeats 4000000 in
theorem ref_delete (h : RefAt w r R S) (ho : R.opened = true) (k : ByteArray) (hl : R.next.ents.length ≤ 1000) (hn : 0 ≤ findInt R.next.ents k) : Calls Tryz.prog 54 #[.pointer (some ⟨r, 0, none⟩), .string k] w fun e w' => e = .returned (.int .i64 0) ∧ RefPost w r (R.del k) S w' := by
  obtain ⟨nv, xv, pv, qs, h1, rfl⟩ := h
  have HH := Lib.hid h1
  obtain ⟨Ax, cx, rfl⟩ := h1.next.slice
  have HX := Lib.hid (find_calls h1.next (R.next.gen : Int) k (by omega))
  have hb := h1.blk
  rw [ho] at hb
  have HB := Lib.hid hb
  have c5 := hb.cell 5
  have c3 := hb.cell 3
  have c4 := hb.cell 4
  have HO := Lib.hid ho
  have tk : decide (findInt R.next.ents k < 0) = false := by simpa using hn
  clear h1 ho hn hb
  go_enter Tryz.func54, Tryz.ntmps54
  go_wp2_with (first
    | (go_at_call 81; refine HX.out.mono ?_; rintro e w2 ⟨rfl, hb2⟩; have HB2 := Lib.hid hb2; have hbl := HB.out.below hb2 HB.out.lt; have HBL := Lib.hid hbl; clear hb2; have d3 := hbl.cell 3; have d4 := hbl.cell 4; clear hbl)
    | (go_at_call 105; refine (without_calls (HH.out.next.below HB2.out) (R.next.gen : Int) k hl).mono ?_; rintro e w3 ⟨A3, c3', rfl, hE3, hb3⟩; have HE3 := Lib.hid hE3; have HB3 := Lib.hid (HB2.out.trans (hb3.mono HB2.out.size)); have hbl3 := HB.out.below HB3.out HB.out.lt; have HBL3 := Lib.hid hbl3; have e3 := hbl3.cell 3; have e4 := hbl3.cell 4; have f3 := hbl3.frozen 3; have f4 := hbl3.frozen 4; clear hE3 hb3 hbl3))
  go_ret
  have hp := (HH.out.keeps (F := fun _ => False) (Keeps.of_below HB3.out) (fun _ h => h.elim) (fun _ _ _ h => h.elim))
  have ht := hp.turn (R' := R.del k) ((Keeps.set1 w3 r 3 _).trans (Keeps.set1 _ r 4 _) (fun _ _ h => h)) (by rw [show (R.del k).opened = true from HO.out]; exact ((HBL3.out.set_ 3 (.int .i64 (R.next.gen : Int))).set_ 4 _)) hp.now HE3.out rfl
  obtain ⟨S', a1, a2, a3⟩ := ht
  exact ⟨rfl, S', a1, fun q hq => (a2 q hq).imp id fun h => Nat.le_trans HB3.out.size h, (Keeps.of_below (F := (· ∈ _)) HB3.out).trans a3 fun _ _ h => h⟩

/-- A state's Get. -/
def GotR (w : World) (r : Int × List UInt8) (e : Ending) (w' : World) : Prop := ∃ v, e = .returned (.tuple #[v, .int .i64 r.1]) ∧ ((v = .slice none 0 0 ∧ r.2 = []) ∨ BytesAt Any w' v r.2) ∧ Below w.heap.size w w'
theorem find_ix {E : List Ent} {k : ByteArray} : (findInt E k < 0 → E.find? (fun e => decide (e.key = k)) = none) ∧ (0 ≤ findInt E k → ∃ i e, findInt E k = (i : Nat) ∧ E[i]? = some e ∧ E.find? (fun e => decide (e.key = k)) = some e) := by
  unfold findInt findIx
  cases h : E.findIdx? fun e => decide (e.key = k) with
  | none =>
    refine ⟨fun _ => ?_, fun h2 => by simp at h2⟩
    rw [List.findIdx?_eq_none_iff] at h
    rw [List.find?_eq_none]
    intro x hx
    have := h x hx
    simpa using this
  | some i =>
    refine ⟨fun h2 => by simp at h2; omega, fun _ => ?_⟩
    rw [List.findIdx?_eq_some_iff_getElem] at h
    obtain ⟨hi, hx, hn⟩ := h
    refine ⟨i, E[i], rfl, List.getElem?_eq_getElem hi, ?_⟩
    rw [List.find?_eq_some_iff_getElem]
    exact ⟨hx, i, hi, rfl, fun j hj => by have := hn j hj; simpa using this⟩
set_option maxRecDepth 100000 in
set_option maxHeartbeats 4000000 in
theorem getR_calls {v : Value} {t : RSt} (h : EntsAt Any w v t.ents) (k : ByteArray) (hl : t.ents.length ≤ 1000) :
    Calls Tryz.prog 57 #[.agg #[.int .i64 (t.gen : Int), v], .string k] w (GotR w (getR t k)) := by
  obtain ⟨A, c, rfl⟩ := h.slice
  have HF : Hid (∀ o, Calls Tryz.prog 81 #[.agg #[.int .i64 (t.gen : Int), .slice A t.ents.length c], .string k] (w.alloc o) fun e w' => e = .returned (.int .i64 (findInt t.ents k)) ∧ Below (w.alloc o).heap.size (w.alloc o) w') := fun o => find_calls (h.below ((Below.refl _ w).alloc (Nat.le_refl _) o)) (t.gen : Int) k (by omega)
  obtain ⟨ps, hps, hp⟩ := h
  have hpl : ps.length = t.ents.length := by rw [← hps, List.length_map]
  obtain ⟨A', c', hv, hrow⟩ := hp.row
  obtain ⟨fi1, fi2⟩ := find_ix (E := t.ents) (k := k)
  have HB := Lib.hid hp.2
  have HROW := Lib.hid hrow
  have HPS := Lib.hid hps
  have HV := Lib.hid hv
  clear hp hrow hps
  injection hv with hA hle hc
  subst hA hc
  clear hle HV
  have HPL := Lib.hid hpl
  clear hpl
  have hbx : ∀ o, Blk (w.alloc (.cells #[.int .i64 (t.gen : Int), .slice A t.ents.length c] 46)) w.heap.size 46 #[.int .i64 (t.gen : Int), .slice A t.ents.length c] := fun _ : Unit => Blk.new w _ _
  have HBX := Lib.hid (hbx ())
  clear hbx
  rcases Int.lt_or_le (findInt t.ents k) 0 with hn | hn
  · have hg : getR t k = (55, []) := by unfold getR; rw [fi1 hn]
    rw [hg]
    have tk : decide (findInt t.ents k < 0) = true := by simpa using hn
    clear fi1 fi2 hg hn
    go_enter Tryz.func57, Tryz.ntmps57
    go_wp2_with (go_at_call 81; refine (HF.out _).mono ?_; rintro e w2 ⟨rfl, hb2⟩; have HB2 := Lib.hid hb2; clear hb2)
    go_ret2
    exact ⟨_, rfl, .inl ⟨rfl, rfl⟩, ((Below.refl _ w).alloc (Nat.le_refl _) _).trans (HB2.out.mono (by simp))⟩
  · obtain ⟨i, x, hfi, hix, hfe⟩ := fi2 hn
    have hg : getR t k = (0, x.val) := by unfold getR; rw [hfe]
    rw [hg]
    rw [hfi] at HF
    have hil : i < t.ents.length := (List.getElem?_eq_some_iff.1 hix).1
    have tk : decide (((i : Nat) : Int) < 0) = false := by simp
    have hil2 : (i : Int) < (t.ents.length : Int) := by omega
    have hip : i < ps.length := by have := HPL.out; omega
    obtain ⟨g, rfl, q0, q1, q2⟩ := HROW.out i ps[i] (List.getElem?_eq_getElem hip)
    have hxe : ps[i].1 = x := by
      have h1 : (ps.map (·.1))[i]? = some x := by rw [HPS.out]; exact hix
      rw [List.getElem?_map, List.getElem?_eq_getElem hip] at h1
      simpa using h1
    have hB := HB.out _ (List.getElem_mem hip)
    rw [hxe] at hB
    obtain ⟨gx, cx, curx, hvx, _⟩ := hB.cells
    rw [hvx] at q1 hB
    have HBY := Lib.hid hB
    have hgw : g < w.heap.size := World.block_lt_of_cell? w _ q1
    clear fi1 fi2 hg hn hfi hix hfe q0 q2 hxe hB hvx
    go_enter Tryz.func57, Tryz.ntmps57
    go_wp2_with (go_at_call 81; refine (HF.out _).mono ?_; rintro e w2 ⟨rfl, hb2⟩; have HB2 : Hid (Below w.heap.size w w2) := ((Below.refl _ w).alloc (Nat.le_refl _) _).trans (hb2.mono (by simp)); have y1 := (HBX.out.below hb2 HBX.out.lt).cell 1; clear hb2; have x1 := (HB2.out.cell (p := ⟨g, i * 3 + 1, none⟩) hgw).trans q1)
    go_ret2
    exact ⟨_, rfl, .inr (HBY.out.below_ HB2.out), HB2.out⟩
end

end Go.Proofs.YtbgiklkpinflaaaGreat

namespace Go.Proofs.YtbgiklkpinflaaaGreat
open Go.RowKit Go.Shelf
attribute [local go_sem ↓] Go.wp_at_zero Go.wp_at_succ

theorem Tryz.infoStr : (Tryz.prog.info? 9).map (fun i => (i.zero, i.size, i.bytes)) = some (some (.string ⟨#[]⟩), 1, 16) := by kernel_rfl
theorem own_base {w : World} {base n size : Nat} {e : TypeId} {v : Value} {xs : List Value} (h : w.ownsRow base e size v n xs) {q : Nat} (hq : v.ownBlock = some q) : base ≤ q := by
  rcases h.2 with ⟨e, _⟩ | ⟨g', cap, cur, e, hb, _⟩
  · rw [e] at hq; simp [Value.ownBlock] at hq
  · rw [e] at hq
    have : g' = q := by simpa [Value.ownBlock] using hq
    omega
def keyVals (E : List Ent) : List Value := E.map fun e => .string e.key
theorem keyVals_take {E : List Ent} {j : Nat} {e : Ent} (h : E[j]? = some e) : keyVals (E.take (j + 1)) = keyVals (E.take j) ++ [.string e.key] := by
  obtain ⟨hj, rfl⟩ := List.getElem?_eq_some_iff.1 h
  unfold keyVals
  rw [List.take_succ_eq_append_getElem hj, List.map_append]
  rfl
set_option maxRecDepth 100000 in
set_option maxHeartbeats 4000000 in
theorem keysR_calls {P : Nat → Prop} {w : World} {v : Value} {E : List Ent} (h : EntsAt P w v E) (gen : Int) (hl : E.length ≤ 1000) :
    Calls Tryz.prog 40 #[.agg #[.int .i64 gen, v]] w fun e w' => ∃ A c, e = .returned (.slice A E.length c) ∧ w'.ownsRow w.heap.size 9 1 (.slice A E.length c) E.length (keyVals E) ∧ Below w.heap.size w w' := by
  obtain ⟨ps, hps, h⟩ := h
  have hpl : ps.length = E.length := by rw [← hps, List.length_map]
  obtain ⟨A, c, rfl, hrow⟩ := h.row
  have HROW := Lib.hid hrow
  have HB := Lib.hid h.2
  have HPS := Lib.hid hps
  have HPL := Lib.hid hpl
  have hpl1 : ps.length ≤ 1000 := by omega
  obtain ⟨iw, hiw, hz0, hz1, hz2⟩ := info_parts Tryz.infoStr
  clear hrow h hl hps hpl
  go_enter Tryz.func40, Tryz.ntmps40
  go_wp2
  go_loopw [3, 9] (fun o x wr => ∃ j : Nat, j ≤ ps.length ∧ x = .int .i64 j ∧ wr.ownsRow w.heap.size 9 1 o j (keyVals (E.take j)) ∧ Below w.heap.size w wr) (fun _ x _ => ps.length - (intOf x).toNat)
  case atStart => exact ⟨0, Nat.zero_le _, rfl, ⟨by simp [keyVals], .inl ⟨rfl, rfl⟩⟩, (Below.refl _ w).alloc (Nat.le_refl _) _⟩
  case round =>
    obtain ⟨j, hj, rfl, hown, hM⟩ := hrel
    have HOWN := Lib.hid hown
    have HM := Lib.hid hM
    by_cases hlt : j < ps.length
    · have tk : decide ((j : Int) < (ps.length : Int)) = true := by simp; omega
      obtain ⟨g, rfl, q0, q1, q2⟩ := HROW.out j _ (List.getElem?_eq_getElem hlt)
      obtain ⟨gx, cx, curx, hvx, _⟩ := (HB.out _ (List.getElem_mem hlt)).cells
      rw [hvx] at q1
      have q0 := (hM.cell (World.block_lt_of_cell? w _ q0)).trans q0
      have q1 := (hM.cell (World.block_lt_of_cell? w _ q1)).trans q1
      have q2 := (hM.cell (World.block_lt_of_cell? w _ q2)).trans q2
      have hE : E[j]? = some ps[j].1 := by rw [← HPS.out, List.getElem?_map, List.getElem?_eq_getElem hlt]; rfl
      obtain ⟨x, hx⟩ : ∃ x, x = ps[j] := ⟨_, rfl⟩
      rw [← hx] at q0 q1 q2 hE
      have HT := Lib.hid (keyVals_take hE)
      obtain ⟨Ao, co, rfl, _⟩ := own_slice hown
      have hwz := hM.size
      clear hown hM hvx hx hE
      go_wp2_with (at_builtin; refine wpList_append_own _ rfl _ _ 74 rfl w.heap.size 9 iw (.string ⟨#[]⟩) 1 16 Tryz.underlying74 hiw hz0 hz1 hz2 rfl (by decide) _ _ _ rfl ((HOWN.out.alloc _).alloc _) ⟨wr.heap.size + 1, 0, none⟩ 1 1 [.string x.1.key] rfl rfl ?_ ?_ ?_ ?_ ?_ ?_; (have := cell_one_new (wr.alloc (.cells #[.string x.1.key, .slice (some ⟨gx, 0, none⟩) x.1.val.length cx, .int .i64 (x.1.id : Int)] 114)) (.string x.1.key) 9; rw [World.size_alloc] at this; exact this); simp [Value.oneCell']; (unfold maxLen; omega); omega; (simp; omega); intro v3 w3 hown3 hg3 _; have HO3 := Lib.hid hown3; have HG3 := Lib.hid hg3; clear hown3 hg3)
      go_roundw
      case rel =>
        refine ⟨j + 1, by omega, by go_num, ?_, ((HM.out.alloc HM.out.size _).alloc (by simp; have := HM.out.size; omega) _).grown HG3.out (by simp; have := HM.out.size; omega) (fun q hq => own_base HOWN.out hq)⟩
        rw [HT.out]
        exact HO3.out
      case measure => simp [intOf]; omega
    · obtain rfl : j = ps.length := by omega
      have tk : decide ((ps.length : Int) < ps.length) = false := by simp
      obtain ⟨Ao, co, rfl, _⟩ := own_slice hown
      have ht : E.take ps.length = E := by rw [HPL.out, List.take_length]
      have hown2 := hown
      rw [ht] at hown2
      have HO2 := Lib.hid hown2
      clear hown hown2 ht hM HOWN
      go_wp2
      go_ret
      have := HO2.out
      rw [HPL.out] at this ⊢
      exact ⟨Ao, co, rfl, this, HM.out⟩

/-! ### states -/
def stCells (ts : List (RSt × Value)) : List Value := ts.flatMap fun t => [.int .i64 (t.1.gen : Int), t.2]
theorem stCells_append (ps qs : List (RSt × Value)) : stCells (ps ++ qs) = stCells ps ++ stCells qs := by simp [stCells]
theorem stCells_length (ps : List (RSt × Value)) : (stCells ps).length = ps.length * 2 := by
  induction ps with
  | nil => rfl
  | cons p ps ih => simp only [stCells, List.flatMap_cons, List.length_append, List.length_cons, List.length_nil] at ih ⊢; omega
theorem stCells_at : ∀ (ps : List (RSt × Value)) (j : Nat) (p : RSt × Value), ps[j]? = some p → (stCells ps)[j * 2]? = some (.int .i64 (p.1.gen : Int)) ∧ (stCells ps)[j * 2 + 1]? = some p.2
  | [], j, p, h => by simp at h
  | q :: ps, 0, p, h => by
    simp only [List.getElem?_cons_zero, Option.some.injEq] at h
    subst h
    exact ⟨rfl, rfl⟩
  | q :: ps, j + 1, p, h => by
    have ih := stCells_at ps j p (by simpa using h)
    have e : (j + 1) * 2 = j * 2 + 2 := by omega
    have g : ∀ m, (stCells (q :: ps))[m + 2]? = (stCells ps)[m]? := fun m => rfl
    rw [e, show j * 2 + 2 + 1 = (j * 2 + 1) + 2 by omega, g, g]
    exact ih
theorem Tryz.infoState : (Tryz.prog.info? 46).map (fun i => (i.zero, i.size, i.bytes)) = some (some (.agg #[.int .i64 0, .slice none 0 0]), 2, 32) := by kernel_rfl
theorem Tryz.infoPin : (Tryz.prog.info? 48).map (fun i => (i.zero, i.size, i.bytes)) = some (some (.agg #[.int .i64 0, .slice none 0 0, .bool false]), 3, 40) := by kernel_rfl
/-- Cells behind an own row. -/
theorem row_cells {w : World} {base n size : Nat} {e : TypeId} {v : Value} {xs : List Value} (h : w.ownsRow base e size v n xs) : ∃ A c, v = .slice A n c ∧ ∀ (j : Nat) (u : Value), xs[j]? = some u → ∃ g, A = some ⟨g, 0, none⟩ ∧ base ≤ g ∧ w.cell? ⟨g, j, none⟩ = some u := by
  rcases h.2 with ⟨ev, h0⟩ | ⟨g, cap, cur, ev, hb, hg, hn, hm, hs, ht⟩
  · refine ⟨none, 0, by rw [ev, h0], fun j u hj => ?_⟩
    have := h.1
    rw [h0, Nat.zero_mul] at this
    rw [List.eq_nil_of_length_eq_zero this] at hj
    simp at hj
  · refine ⟨_, cap, ev, fun j u hj => ⟨g, rfl, hb, ?_⟩⟩
    have := take_cells (t := e) hg ht j u hj
    rwa [Nat.zero_add] at this
theorem pins_cells {w : World} {pv : Value} {qs : List ((RSt × Bool) × Value)} (h : w.ownsRow 0 48 3 pv qs.length (pinCells qs)) : ∃ A c, pv = .slice A qs.length c ∧ ∀ (j : Nat) (q : (RSt × Bool) × Value), qs[j]? = some q → ∃ g, A = some ⟨g, 0, none⟩ ∧ w.cell? ⟨g, j * 3, none⟩ = some (.int .i64 (q.1.1.gen : Int)) ∧ w.cell? ⟨g, j * 3 + 1, none⟩ = some q.2 ∧ w.cell? ⟨g, j * 3 + 2, none⟩ = some (.bool q.1.2) := by
  obtain ⟨A, c, e, hc⟩ := row_cells h
  refine ⟨A, c, e, fun j q hj => ?_⟩
  obtain ⟨a, b, d⟩ := pinCells_at qs j q hj
  obtain ⟨g, e1, _, c1⟩ := hc _ _ a
  obtain ⟨g2, e2, _, c2⟩ := hc _ _ b
  obtain ⟨g3, e3, _, c3⟩ := hc _ _ d
  rw [e1] at e2 e3
  cases e2
  cases e3
  exact ⟨g, e1, c1, c2, c3⟩
/-- A list of states in memory. -/
def StatesP (w : World) (base : Nat) (v : Value) (ts : List (RSt × Value)) : Prop := w.ownsRow base 46 2 v ts.length (stCells ts) ∧ ∀ t ∈ ts, EntsAt Any w t.2 t.1.ents
theorem StatesP.cells {w : World} {base : Nat} {v : Value} {ts : List (RSt × Value)} (h : StatesP w base v ts) : ∃ A c, v = .slice A ts.length c ∧ ∀ (j : Nat) (t : RSt × Value), ts[j]? = some t → ∃ g, A = some ⟨g, 0, none⟩ ∧ base ≤ g ∧ w.cell? ⟨g, j * 2, none⟩ = some (.int .i64 (t.1.gen : Int)) ∧ w.cell? ⟨g, j * 2 + 1, none⟩ = some t.2 := by
  obtain ⟨A, c, e, hc⟩ := row_cells h.1
  refine ⟨A, c, e, fun j q hj => ?_⟩
  obtain ⟨a, b⟩ := stCells_at ts j q hj
  obtain ⟨g, e1, hb, c1⟩ := hc _ _ a
  obtain ⟨g2, e2, _, c2⟩ := hc _ _ b
  rw [e1] at e2
  cases e2
  exact ⟨g, e1, hb, c1, c2⟩
theorem StatesP.below {w w' : World} {base : Nat} {v : Value} {ts : List (RSt × Value)} (h : StatesP w base v ts) (hb : Below w.heap.size w w') : StatesP w' base v ts :=
  ⟨ownsRow_keeps h.1 (Keeps.of_below (F := fun _ => False) hb) (fun _ _ h => h), fun t ht => (h.2 t ht).below hb⟩
def addP (out : List (RSt × Value)) (q : (RSt × Bool) × Value) : List (RSt × Value) := if q.1.2 && !(out.any fun t => t.1.gen == q.1.1.gen) then out ++ [(q.1.1, q.2)] else out
theorem addP_st (out : List (RSt × Value)) (q : (RSt × Bool) × Value) : (addP out q).map (·.1) = addSt (out.map (·.1)) q.1 := by
  unfold addP addSt
  rw [List.any_map]
  show (if (q.1.2 && !(out.any fun t => t.1.gen == q.1.1.gen)) = true then out ++ [(q.1.1, q.2)] else out).map (·.1) = if (q.1.2 && !(out.any fun t => t.1.gen == q.1.1.gen)) = true then out.map (·.1) ++ [q.1.1] else out.map (·.1)
  split
  · simp
  · rfl
theorem foldP_st : ∀ (qs : List ((RSt × Bool) × Value)) (out : List (RSt × Value)), (qs.foldl addP out).map (·.1) = (qs.map (·.1)).foldl addSt (out.map (·.1))
  | [], _ => rfl
  | q :: r, out => by
    show (r.foldl addP (addP out q)).map (·.1) = (r.map (·.1)).foldl addSt (addSt (out.map (·.1)) q.1)
    rw [foldP_st r, addP_st]
theorem foldP_take {qs : List ((RSt × Bool) × Value)} {out : List (RSt × Value)} {j : Nat} {q : (RSt × Bool) × Value} (h : qs[j]? = some q) : (qs.take (j + 1)).foldl addP out = addP ((qs.take j).foldl addP out) q := by
  obtain ⟨hj, rfl⟩ := List.getElem?_eq_some_iff.1 h
  rw [List.take_succ_eq_append_getElem hj, List.foldl_append]
  rfl
theorem foldP_length : ∀ (qs : List ((RSt × Bool) × Value)) (out : List (RSt × Value)), (qs.foldl addP out).length ≤ out.length + qs.length
  | [], _ => by simp
  | q :: r, out => by
    have := foldP_length r (addP out q)
    have h2 : (addP out q).length ≤ out.length + 1 := by
      unfold addP
      split
      · simp
      · omega
    simp only [List.foldl_cons, List.length_cons]
    omega
/-- Is a state of the generation among the first i? -/
def knownTo (ts : List (RSt × Value)) (g : Nat) (i : Nat) : Bool := (ts.take i).any fun t => t.1.gen == g
theorem knownTo_succ {ts : List (RSt × Value)} {g i : Nat} {t : RSt × Value} (h : ts[i]? = some t) : knownTo ts g (i + 1) = (knownTo ts g i || (t.1.gen == g)) := by
  obtain ⟨hj, rfl⟩ := List.getElem?_eq_some_iff.1 h
  unfold knownTo
  rw [List.take_succ_eq_append_getElem hj, List.any_append]
  simp

set_option maxRecDepth 100000 in
set_option maxHeartbeats 8000000 in
theorem states_calls {w : World} {r : Nat} {R : RSto} {S : List Nat} (h : RefAt w r R S) (hpn : R.pins.length ≤ 1000) :
    Calls Tryz.prog 67 #[.pointer (some ⟨r, 0, none⟩)] w fun e w' => ∃ v ts, e = .returned v ∧ StatesP w' w.heap.size v ts ∧ ts.map (·.1) = statesOf R.now R.pins ∧ Below w.heap.size w w' := by
  obtain ⟨nv, xv, pv, qs, h1, rfl⟩ := h
  obtain ⟨An, cn, rfl⟩ := h1.now.slice
  obtain ⟨Ap, cp, rfl, hpc⟩ := pins_cells h1.pins
  have hql : qs.length ≤ 1000 := by have := congrArg List.length h1.pl; rw [List.length_map] at this; omega
  have HH := Lib.hid h1
  have HPC := Lib.hid hpc
  have c1 := h1.blk.cell 1
  have c2 := h1.blk.cell 2
  have c6a : ∀ o, (w.alloc o).cell? ⟨r, 6, none⟩ = some (.slice Ap qs.length cp) := fun o => (h1.blk.alloc o).cell 6
  obtain ⟨iw, hiw, hz0, hz1, hz2⟩ := info_parts Tryz.infoState
  obtain ⟨ip, hip, pz0, pz1, pz2⟩ := info_parts Tryz.infoPin
  clear h1 hpc
  go_enter Tryz.func67, Tryz.ntmps67
  go_wp2
  have h0 : StatesP (w.alloc (.cells #[.int .i64 (R.now.gen : Int), .slice An R.now.ents.length cn] 46)) w.heap.size (.slice (some ⟨w.heap.size, 0, none⟩) 1 1) ((qs.take 0).foldl addP [(R.now, .slice An R.now.ents.length cn)]) := by
    refine ⟨⟨rfl, .inr ⟨w.heap.size, 1, _, rfl, Nat.le_refl _, Blk.new w _ _, Nat.le_refl _, by unfold maxLen; omega, rfl, rfl⟩⟩, fun t ht => ?_⟩
    rw [show t = (R.now, .slice An R.now.ents.length cn) by simpa using ht]
    exact HH.out.now.below ((Below.refl _ w).alloc (Nat.le_refl _) _)
  have H0 := Lib.hid h0
  clear h0 c1 c2 c6a
  go_loopw [3, 19] (fun o x wr => ∃ j : Nat, j ≤ qs.length ∧ x = .int .i64 j ∧ StatesP wr w.heap.size o ((qs.take j).foldl addP [(R.now, .slice An R.now.ents.length cn)]) ∧ Below w.heap.size w wr) (fun _ x _ => qs.length - (intOf x).toNat)
  case atStart => exact ⟨0, Nat.zero_le _, rfl, H0.out, (Below.refl _ w).alloc (Nat.le_refl _) _⟩
  case round =>
    obtain ⟨j, hj, rfl, hS, hM⟩ := hrel
    obtain ⟨wo, hwo⟩ : ∃ wo : World, wo = wr := ⟨_, rfl⟩
    subst hwo
    have HS := Lib.hid hS
    have HM := Lib.hid hM
    by_cases hlt : j < qs.length
    · have tk : decide ((j : Int) < (qs.length : Int)) = true := by simp; omega
      obtain ⟨g, rfl, q0, q1, q2⟩ := HPC.out j _ (List.getElem?_eq_getElem hlt)
      obtain ⟨Aq, cq, hq2⟩ := (HH.out.pe _ (List.getElem_mem hlt)).slice
      rw [hq2] at q1
      have q0 := (hM.cell (World.block_lt_of_cell? w _ q0)).trans q0
      have q1 := (hM.cell (World.block_lt_of_cell? w _ q1)).trans q1
      have q2 := (hM.cell (World.block_lt_of_cell? w _ q2)).trans q2
      have HT := Lib.hid (foldP_take (out := [(R.now, .slice An R.now.ents.length cn)]) (List.getElem?_eq_getElem hlt))
      have hlen := foldP_length (qs.take j) [(R.now, .slice An R.now.ents.length cn)]
      rw [List.length_take, List.length_singleton] at hlen
      have HQE := Lib.hid (HH.out.pe _ (List.getElem_mem hlt))
      obtain ⟨q, hq⟩ : ∃ q, q = qs[j] := ⟨_, rfl⟩
      obtain ⟨ts, hts⟩ : ∃ ts, ts = (qs.take j).foldl addP [(R.now, .slice An R.now.ents.length cn)] := ⟨_, rfl⟩
      rw [← hq] at q0 q1 q2 HT hq2 HQE
      rw [← hts] at hS HS HT hlen
      obtain ⟨Ao, co, rfl, hcell⟩ := hS.cells
      have HCELL := Lib.hid hcell
      have HQ2 := Lib.hid hq2
      have hwz := hM.size
      obtain ⟨X, hX⟩ : ∃ X : Obj, X = .cells #[.int .i64 (q.1.1.gen : Int), .slice Aq q.1.1.ents.length cq, .bool q.1.2] 48 := ⟨_, rfl⟩
      have hbx : Blk (wo.alloc X) wo.heap.size 48 #[.int .i64 (q.1.1.gen : Int), .slice Aq q.1.1.ents.length cq, .bool q.1.2] := by rw [hX]; exact Blk.new wo _ _
      have HBX := Lib.hid hbx
      have HXX := Lib.hid hX
      have htl : ts.length ≤ 1001 := by omega
      clear hS hM hq hts hcell hq2 hX hbx hlen
      go_wp2
      rw [← HXX.out]
      go_loopw [6, 28] (fun kv x wi => ∃ i : Nat, i ≤ ts.length ∧ x = .int .i64 i ∧ kv = .bool (!q.1.2 || knownTo ts q.1.1.gen i) ∧ Below (wo.alloc X).heap.size (wo.alloc X) wi) (fun _ x _ => ts.length - (intOf x).toNat)
      case atStart => exact ⟨0, Nat.zero_le _, rfl, by simp [knownTo], Below.refl _ _⟩
      case round =>
        obtain ⟨i, hi, rfl, rfl, hB⟩ := hrel
        have HB := Lib.hid hB
        have p0 : wr.cell? ⟨wo.heap.size, 0, none⟩ = some (.int .i64 (q.1.1.gen : Int)) := (HBX.out.below hB HBX.out.lt).cell 0
        have p1 : wr.cell? ⟨wo.heap.size, 1, none⟩ = some (.slice Aq q.1.1.ents.length cq) := (HBX.out.below hB HBX.out.lt).cell 1
        have hwr : wo.heap.size + 1 ≤ wr.heap.size := by have := hB.size; rw [World.size_alloc] at this; exact this
        by_cases hlt2 : i < ts.length
        · have tk2 : decide ((i : Int) < (ts.length : Int)) = true := by simp; omega
          obtain ⟨go, rfl, hgo, t0, t1⟩ := HCELL.out i _ (List.getElem?_eq_getElem hlt2)
          have htm : ts[i] ∈ ts := List.getElem_mem hlt2
          obtain ⟨At, ct, ht2⟩ := (HS.out.2 _ htm).slice
          rw [ht2] at t1
          have hb0 : Below wo.heap.size wo wr := ((Below.refl _ wo).alloc (Nat.le_refl _) X).trans (hB.mono (by simp))
          have t0 := (hb0.cell (World.block_lt_of_cell? wo _ t0)).trans t0
          have t1 := (hb0.cell (World.block_lt_of_cell? wo _ t1)).trans t1
          have HK := Lib.hid (knownTo_succ (g := q.1.1.gen) (List.getElem?_eq_getElem hlt2))
          obtain ⟨t, ht⟩ : ∃ t, t = ts[i] := ⟨_, rfl⟩
          rw [← ht] at t0 t1 HK
          have p0a : ∀ o, (wr.alloc o).cell? ⟨wo.heap.size, 0, none⟩ = some (.int .i64 (q.1.1.gen : Int)) := fun o => Lib.cell?_alloc_some _ p0
          clear hB hb0 htm ht2 ht
          obtain ⟨kb, hkb⟩ : ∃ kb, kb = (!q.1.2 || knownTo ts q.1.1.gen i) := ⟨_, rfl⟩
          rw [← hkb]
          have HKB := Lib.hid hkb
          clear hkb
          cases kb with
          | true =>
            go_wp2
            go_roundw
            case rel =>
              refine ⟨i + 1, by omega, by go_num, ?_, HB.out.alloc HB.out.size _⟩
              have := HKB.out
              rw [HK.out, ← Bool.or_assoc, ← this]
              rfl
            case measure => simp [intOf]; omega
          | false =>
            by_cases he : t.1.gen = q.1.1.gen
            · have he2 : ((t.1.gen : Int) == (q.1.1.gen : Int)) = true := by simp [he]
              have HE := Lib.hid he
              clear he
              go_wp2
              go_roundw
              case rel =>
                refine ⟨i + 1, by omega, by go_num, ?_, HB.out.alloc HB.out.size _⟩
                have := HKB.out
                rw [HK.out, ← Bool.or_assoc, ← this]
                simp [HE.out]
              case measure => simp [intOf]; omega
            · have he2 : ((t.1.gen : Int) == (q.1.1.gen : Int)) = false := by rw [beq_eq_false_iff_ne]; omega
              have HE := Lib.hid he
              clear he
              go_wp2
              go_roundw
              case rel =>
                refine ⟨i + 1, by omega, by go_num, ?_, HB.out.alloc HB.out.size _⟩
                have := HKB.out
                rw [HK.out, ← Bool.or_assoc, ← this]
                simp [HE.out]
              case measure => simp [intOf]; omega
        · obtain rfl : i = ts.length := by omega
          have tk2 : decide ((ts.length : Int) < ts.length) = false := by simp
          obtain ⟨kb, hkb⟩ : ∃ kb, kb = (!q.1.2 || knownTo ts q.1.1.gen ts.length) := ⟨_, rfl⟩
          rw [← hkb]
          have HKB := Lib.hid hkb
          have HB0 : Hid (Below wo.heap.size wo wr) := ((Below.refl _ wo).alloc (Nat.le_refl _) X).trans (hB.mono (by simp))
          have hfull : knownTo ts q.1.1.gen ts.length = ts.any fun t => t.1.gen == q.1.1.gen := by unfold knownTo; rw [List.take_length]
          have HF := Lib.hid hfull
          clear hkb hB hfull
          cases kb with
          | true =>
            go_wp2
            go_roundw
            case rel =>
              refine ⟨j + 1, by omega, by go_num, ?_, HM.out.trans (HB0.out.mono HM.out.size)⟩
              have e : addP ts q = ts := by
                unfold addP
                rw [if_neg]
                have := HKB.out
                rw [HF.out] at this
                cases h1 : q.1.2 <;> simp [h1] at this ⊢
                simpa using this
              rw [HT.out, e]
              exact HS.out.below HB0.out
            case measure => simp [intOf]; omega
          | false =>
            have HSB := Lib.hid (HS.out.below HB0.out)
            go_wp2_with (at_builtin; refine wpList_append_own _ rfl _ _ 119 rfl w.heap.size 46 iw (.agg #[.int .i64 0, .slice none 0 0]) 2 32 Tryz.underlying119 hiw hz0 hz1 hz2 rfl (by decide) _ _ _ rfl (HSB.out.1.alloc _) ⟨wr.heap.size, 0, none⟩ 1 1 [.int .i64 (q.1.1.gen : Int), .slice Aq q.1.1.ents.length cq] rfl rfl ?_ ?_ ?_ ?_ ?_ ?_; exact World.news_of_block (heap_alloc_new wr _); simp [Value.oneCell']; (unfold maxLen; omega); omega; (simp; omega); intro v3 w3 hown3 hg3 _; have HO3 := Lib.hid hown3; have HG3 := Lib.hid hg3; clear hown3 hg3)
            go_roundw
            case rel =>
              have hbw : Below w.heap.size w wr := HM.out.trans (HB0.out.mono HM.out.size)
              have hb3 : Below w.heap.size w w3 := (hbw.alloc hbw.size _).grown HG3.out (by simp; have := hbw.size; omega) (fun q' hq' => own_base HSB.out.1 hq')
              have e : addP ts q = ts ++ [(q.1.1, q.2)] := by
                unfold addP
                rw [if_pos]
                have := HKB.out
                rw [HF.out] at this
                cases h1 : q.1.2 <;> simp [h1] at this ⊢
                simpa using this
              refine ⟨j + 1, by omega, by go_num, ?_, hb3⟩
              rw [HT.out, e]
              refine ⟨?_, fun t ht => ?_⟩
              · rw [List.length_append, List.length_singleton, stCells_append]
                have := HO3.out
                rw [show stCells [(q.1.1, q.2)] = [.int .i64 (q.1.1.gen : Int), q.2] from rfl, HQ2.out]
                exact this
              · rcases List.mem_append.1 ht with ht | ht
                · have h2 := (HSB.out.2 t ht).below ((Below.refl _ wr).alloc (Nat.le_refl _) (.cells #[.int .i64 (q.1.1.gen : Int), .slice Aq q.1.1.ents.length cq] 46))
                  refine h2.keepsT (F := fun g' => (Value.slice Ao ts.length co).ownBlock = some g') (Keeps.of_grown HG3.out fun g' h => h) fun g' t' cs' hg' hb' => ?_
                  obtain ⟨cs0, hb0⟩ := own_is_blk (HSB.out.1.alloc (.cells #[.int .i64 (q.1.1.gen : Int), .slice Aq q.1.1.ents.length cq] 46)) hg'
                  have := (hb'.det hb0).2
                  subst this
                  exact ⟨by decide, by decide⟩
                · rw [List.mem_singleton.1 ht]
                  exact HQE.out.below hb3
            case measure => simp [intOf]; omega
    · obtain rfl : j = qs.length := by omega
      have tk : decide ((qs.length : Int) < qs.length) = false := by simp
      obtain ⟨Ao, co, rfl, _⟩ := hS.cells
      clear hS hM
      go_wp2
      go_ret
      refine ⟨_, _, rfl, HS.out, ?_, HM.out⟩
      rw [foldP_st, List.take_length, HH.out.pl]
      rfl

end Go.Proofs.YtbgiklkpinflaaaGreat
