/- The reference's store: Commit, Put, Snapshot, Release. The reference's store: Put, Snapshot. The reference's store: Snapshot. -/
import Derived.Test.YtbgiklkpinflaaaGreatRsD

namespace Go.Proofs.YtbgiklkpinflaaaGreat
open Go.RowKit Go.Shelf
attribute [local go_sem ↓] Go.wp_at_zero Go.wp_at_succ

/-- What the calls of the reference's store ask. -/
structure RefOk (R : RSto) : Prop where
  pins : R.pins.length ≤ 1000
  sts : StsOk (statesOf R.now R.pins)
  blocks : R.blocks ≤ 1024
  next : EsOk R.next.ents
  now : R.now.ents.length ≤ 1000
  gen : R.now.gen ≤ 1000000
  last : R.last ≤ 1000000
section
variable {w : World} {r : Nat} {R : RSto} {S : List Nat}
set_option maxRecDepth 100000 in
set_option maxHeartbeats 2000000 in
theorem ref_commit_no (h : RefAt w r R S) (ho : R.opened = false) : Calls Tryz.prog 22 #[.pointer (some ⟨r, 0, none⟩)] w fun e w' => e = .returned (.int .i64 54) ∧ Below w.heap.size w w' := by
  obtain ⟨nv, xv, pv, qs, h1, rfl⟩ := h
  have c5 : w.cell? ⟨r, 5, none⟩ = some (.bool false) := by have := h1.blk.cell 5; rw [← ho]; exact this
  clear h1 ho
  go_enter Tryz.func22, Tryz.ntmps22
  go_wp2
  go_ret
  exact ⟨rfl, Below.refl _ _⟩
set_option maxRecDepth 100000 in
set_option maxHeartbeats 4000000 in
theorem ref_commit_full (h : RefAt w r R S) (hk : RefOk R) (ho : R.opened = true) (hf : R.free < (R.need : Int)) : Calls Tryz.prog 22 #[.pointer (some ⟨r, 0, none⟩)] w fun e w' => e = .returned (.int .i64 52) ∧ Below w.heap.size w w' := by
  have HH := Lib.hid h
  obtain ⟨nv, xv, pv, qs, h1, rfl⟩ := h
  have c5 : w.cell? ⟨r, 5, none⟩ = some (.bool true) := by have := h1.blk.cell 5; rw [← ho]; exact this
  have HK := Lib.hid hk
  obtain ⟨F, hF⟩ : ∃ F, F = R.free := ⟨_, rfl⟩
  obtain ⟨N, hN⟩ : ∃ N : Nat, N = R.need := ⟨_, rfl⟩
  rw [← hF, ← hN] at hf
  have HF := Lib.hid hF
  have HN := Lib.hid hN
  have tk : decide (F < (N : Int)) = true := by simpa using hf
  clear h1 ho hk hF hN hf
  go_enter Tryz.func22, Tryz.ntmps22
  go_wp2_with (first
    | (go_at_call 20; refine (ref_free HH.out HK.out.pins HK.out.sts HK.out.blocks).mono ?_; rw [← HF.out]; rintro e w1 ⟨rfl, hb1⟩; have HB1 := Lib.hid hb1; clear hb1)
    | (go_at_call 30; refine (ref_need (HH.out.below HB1.out) HK.out.next HK.out.now).mono ?_; rw [← HN.out]; rintro e w2 ⟨rfl, hb2⟩; have HB2 := Lib.hid (HB1.out.trans (hb2.mono HB1.out.size)); clear hb2))
  go_ret
  exact ⟨rfl, HB2.out⟩
set_option maxRecDepth 100000 in
set_option maxHeartbeats 4000000 in
theorem ref_commit (h : RefAt w r R S) (hk : RefOk R) (ho : R.opened = true) (hf : (R.need : Int) ≤ R.free) : Calls Tryz.prog 22 #[.pointer (some ⟨r, 0, none⟩)] w fun e w' => e = .returned (.int .i64 0) ∧ RefPost w r R.comm S w' := by
  have HH := Lib.hid h
  obtain ⟨nv, xv, pv, qs, h1, rfl⟩ := h
  have HP := Lib.hid h1
  have hb := h1.blk
  rw [ho] at hb
  have HB := Lib.hid hb
  have c5 := hb.cell 5
  obtain ⟨An, cn, rfl⟩ := h1.now.slice
  obtain ⟨Ax, cx, rfl⟩ := h1.next.slice
  have HK := Lib.hid hk
  obtain ⟨F, hF⟩ : ∃ F, F = R.free := ⟨_, rfl⟩
  obtain ⟨N, hN⟩ : ∃ N : Nat, N = R.need := ⟨_, rfl⟩
  rw [← hF, ← hN] at hf
  have HF := Lib.hid hF
  have HN := Lib.hid hN
  have tk : decide (F < (N : Int)) = false := by simpa using hf
  clear h1 ho hk hF hN hf hb
  go_enter Tryz.func22, Tryz.ntmps22
  go_wp2_with (first
    | (go_at_call 20; refine (ref_free HH.out HK.out.pins HK.out.sts HK.out.blocks).mono ?_; rw [← HF.out]; rintro e w1 ⟨rfl, hb1⟩; have HB1 := Lib.hid hb1; clear hb1)
    | (go_at_call 30; refine (ref_need (HH.out.below HB1.out) HK.out.next HK.out.now).mono ?_; rw [← HN.out]; rintro e w2 ⟨rfl, hb2⟩; have HB2 := Lib.hid (HB1.out.trans (hb2.mono HB1.out.size)); clear hb2)
    | (go_at_call 29; refine (ref_made (HH.out.below HB2.out) HK.out.gen).mono ?_; rintro e w3 ⟨A3, c3, rfl, hE3, hb3⟩; have HE3 := Lib.hid hE3; have HB3 := Lib.hid (HB2.out.trans (hb3.mono HB2.out.size)); have hbl3 := HB.out.below HB3.out HB.out.lt; have HBL3 := Lib.hid hbl3; have e1 := hbl3.cell 1; have e2 := hbl3.cell 2; have e3 := hbl3.cell 3; have e4 := hbl3.cell 4; have e5 := hbl3.cell 5; have f1 := hbl3.frozen 1; have f2 := hbl3.frozen 2; have f3 := hbl3.frozen 3; have f4 := hbl3.frozen 4; have f5 := hbl3.frozen 5; clear hE3 hb3 hbl3))
  go_ret
  have hp := HP.out.keeps (F := fun _ => False) (Keeps.of_below HB3.out) (fun _ h => h.elim) (fun _ _ _ h => h.elim)
  have ht := hp.turn (R' := R.comm) (((((Keeps.set1 w3 r 1 _).trans (Keeps.set1 _ r 2 _) (fun _ _ h => h)).trans (Keeps.set1 _ r 5 _) (fun _ _ h => h)).trans (Keeps.set1 _ r 3 _) (fun _ _ h => h)).trans (Keeps.set1 _ r 4 _) (fun _ _ h => h)) (((((HBL3.out.set_ 1 (.int .i64 ((R.now.gen + 1 : Nat) : Int))).set_ 2 _).set_ 5 (.bool false)).set_ 3 (.int .i64 0)).set_ 4 (.slice none 0 0)) HE3.out (EntsAt.nil w3) rfl
  obtain ⟨S', a1, a2, a3⟩ := ht
  exact ⟨rfl, S', a1, fun q hq => (a2 q hq).imp id fun h => Nat.le_trans HB3.out.size h, (Keeps.of_below (F := (· ∈ _)) HB3.out).trans a3 fun _ _ h => h⟩

/-! ### Release -/
theorem offAt_get {α : Type} {l : List (α × Bool)} {i : Nat} {p : α × Bool} (h : l[i]? = some p) : offAt l i = l.set i (p.1, false) := by unfold offAt; rw [h]
theorem pinCells_off {qs : List ((RSt × Bool) × Value)} {i : Nat} {q : (RSt × Bool) × Value} (h : qs[i]? = some q) : pinCells (qs.set i ((q.1.1, false), q.2)) = (pinCells qs).set (i * 3 + 2) (.bool false) := by
  induction qs generalizing i with
  | nil => simp at h
  | cons x r ih =>
    cases i with
    | zero =>
      simp only [List.getElem?_cons_zero, Option.some.injEq] at h
      subst h
      rfl
    | succ i =>
      have := ih (i := i) (by simpa using h)
      have e : (i + 1) * 3 + 2 = (i * 3 + 2) + 3 := by omega
      rw [e]
      show [_, _, _] ++ pinCells (r.set i ((q.1.1, false), q.2)) = ([_, _, _] ++ pinCells r).set ((i * 3 + 2) + 3) _
      rw [this]
      rfl
set_option maxRecDepth 100000 in
set_option maxHeartbeats 4000000 in
theorem ref_release (h : RefAt w r R S) (i : Nat) (hi : i < R.pins.length) (hpn : R.pins.length ≤ 1000) : Calls Tryz.prog 17 #[.pointer (some ⟨r, 0, none⟩), .int .i64 (i : Int)] w fun e w' => e = .returned (.tuple #[]) ∧ RefPost w r (R.rel i) S w' := by
  obtain ⟨nv, xv, pv, qs, h1, rfl⟩ := h
  have hql : qs.length = R.pins.length := by rw [← h1.pl, List.length_map]
  have hiq : i < qs.length := by omega
  obtain ⟨A, c, rfl, hcell⟩ := pins_cells h1.pins
  obtain ⟨g, rfl, q0, q1, q2⟩ := hcell i _ (List.getElem?_eq_getElem hiq)
  have hrow : ∃ cap cur, c = cap ∧ Blk w g 48 cur ∧ qs.length ≤ cap ∧ cap ≤ maxLen ∧ cur.size = cap * 3 ∧ cur.toList.take (qs.length * 3) = pinCells qs := by
    rcases h1.pins.2 with ⟨e, _⟩ | ⟨g', cap, cur, e, _, hb, hn, hm, hs, ht⟩
    · cases e
    · injection e with e1 _ e3
      cases e1
      exact ⟨cap, cur, e3, hb, hn, hm, hs, ht⟩
  obtain ⟨cap, cur, rfl, hbg, hnc, hcm, hcs, hct⟩ := hrow
  have HH := Lib.hid h1
  have HBG := Lib.hid hbg
  have c6 := h1.blk.cell 6
  have HQL := Lib.hid hql
  have hi0 : (0 : Int) ≤ (i : Int) := by omega
  have hi1 : (i : Int) < (qs.length : Int) := by omega
  have hq1 : qs.length ≤ 1000 := by omega
  have q2' : w.cell? ⟨g, i * 3 + 2, none⟩ = some (.bool qs[i].1.2) := q2
  have f2 := hbg.frozen (i * 3 + 2)
  have HCT := Lib.hid hct
  clear h1 hcell q0 q1 hbg hct hql q2
  go_enter Tryz.func17, Tryz.ntmps17
  go_wp2
  go_end0
  have hqi : qs[i]? = some qs[i] := List.getElem?_eq_getElem hiq
  have hrg : r ≠ g := HH.out.blk.ne_ HBG.out (by decide)
  have k := Keeps.set1 w g (i * 3 + 2) (.bool false)
  have hF : ∀ g' t cs, g' = g → Blk w g' t cs → t ≠ 114 ∧ t ≠ 5 := fun g' t cs e hb2 => by
    subst e
    have := (hb2.det HBG.out).2
    subst this
    exact ⟨by decide, by decide⟩
  refine ⟨rfl, _, ⟨nv, xv, .slice (some ⟨g, 0, none⟩) qs.length c, qs.set i ((qs[i].1.1, false), qs[i].2), ⟨?_, HH.out.now.keepsT k hF, HH.out.next.keepsT k hF, ?_, ?_, ?_⟩, rfl⟩, fun q hq => .inl hq, k.weaken fun g' _ e => by subst e; simp [Value.ownBlock]⟩
  · exact HH.out.blk.far (p := ⟨g, i * 3 + 2, none⟩) hrg _
  · rw [List.length_set]
    refine ⟨by rw [pinCells_length, List.length_set], .inr ⟨g, c, _, rfl, Nat.zero_le _, HBG.out.set_ (i * 3 + 2) (.bool false), hnc, hcm, by simpa using hcs, ?_⟩⟩
    rw [pinCells_off hqi, ← HCT.out]
    rw [Array.toList_setIfInBounds, List.take_set]
  · rw [List.map_set, HH.out.pl]
    show R.pins.set i (qs[i].1.1, false) = (R.rel i).pins
    have : R.pins[i]? = some qs[i].1 := by rw [← HH.out.pl, List.getElem?_map, hqi]; rfl
    show _ = offAt R.pins i
    rw [offAt_get this]
  · intro q hq
    rcases List.mem_or_eq_of_mem_set hq with hq | hq
    · exact (HH.out.pe q hq).keepsT k hF
    · subst hq
      exact (HH.out.pe qs[i] (List.getElem_mem hiq)).keepsT k hF
end

end Go.Proofs.YtbgiklkpinflaaaGreat

namespace Go.Proofs.YtbgiklkpinflaaaGreat
open Go.RowKit Go.Shelf
attribute [local go_sem ↓] Go.wp_at_zero Go.wp_at_succ

theorem empty_ownB (w : World) : (w.alloc (.cells #[] 5)).ownsRow w.heap.size 5 1 (.slice (some ⟨w.heap.size, 0, none⟩) 0 0) 0 [] :=
  ⟨rfl, .inr ⟨w.heap.size, 0, #[], rfl, Nat.le_refl _, Blk.new w _ _, Nat.le_refl _, Nat.zero_le _, rfl, rfl⟩⟩
/-- append([]byte with nothing, l...) at a step of a region that draws. -/
theorem step_append_bytes {w : World} {ops : Array Oper} {o : Oper} {a : Go.Act} {K : Go.Act → World → Prop} {E : Prop} {Q : Exit → Go.Act → World → Prop} (hgd : o.guard = none) (s x : Operand)
    (ho : o.op = .call { callee := .builtin .append, args := #[s, x], argTypes := #[89, 89] }) {g0 base : Nat} (hs : a.eval s = .slice (some ⟨g0, 0, none⟩) 0 0) (hown : w.ownsRow base 5 1 (.slice (some ⟨g0, 0, none⟩) 0 0) 0 [])
    {gv c : Nat} {l : List UInt8} (hx : a.eval x = .slice (some ⟨gv, 0, none⟩) l.length c) (hc : Cells w gv 0 (l.map bv)) (hl : l.length ≤ 1000000) (hbase : base ≤ w.heap.size)
    (h : ∀ g cap w', BytesAt (base ≤ ·) w' (.slice (some ⟨g, 0, none⟩) l.length cap) l → w.grownBy w' (some g0) → K (a.put o.dst (.slice (some ⟨g, 0, none⟩) l.length cap)) w') :
    if Region.wanted o (yielded ops a.tmps) = true then Oper.wp Tryz.prog o a w K Q else E := by
  have hw : Region.wanted o (yielded ops a.tmps) = true := by simp [Region.wanted, hgd]
  rw [if_pos hw]
  obtain ⟨iu, hiu, uz0, uz1, uz2⟩ := info_parts Tryz.infoU8
  obtain ⟨v', w', hr, h2, h3, h4, h5⟩ := run_append_own_at (P := Tryz.prog) w base 89 o.type 5 iu _ 1 1 Tryz.underlying89 hiu uz0 uz1 uz2 rfl (by decide) _ _ _ hown ⟨gv, 0, none⟩ l.length c (l.map bv) (by simp) (fun j u hj => by rw [Addr.add_lit]; exact hc j u hj) (oneCell_bv l) (by unfold maxLen; omega) (by omega) hbase
  have hne : v' ≠ .slice none 0 0 := fun e => by
    have := (h4.1 e).1
    cases this
  have h2 : w'.ownsRow base 5 1 v' l.length (l.map bv) := by simpa using h2
  have hB := BytesAt.of_own h2 hne
  obtain ⟨g, cap, cur, rfl, _⟩ := id hB
  unfold Oper.wp execOp
  simp only [ho, resolve, invoke, builtin, Sem.run_bind, Sem.run_pure, Result.andThen_ok, List.map_toArray, List.map_cons, List.map_nil, hs, hx, hr]
  exact h g cap w' hB h3

theorem RefParts.turned_ {w w' : World} {r : Nat} {R : RSto} {nv xv pv : Value} {qs : List ((RSt × Bool) × Value)} (h : RefParts w r R nv xv pv qs) {R' : RSto} {nv' xv' : Value} (k : Keeps (· = r) w w') (hb : Blk w' r 51 #[.int .i64 (R'.blocks : Int), .int .i64 (R'.now.gen : Int), nv', .int .i64 (R'.next.gen : Int), xv', .bool R'.opened, pv, .int .i64 (R'.last : Int)])
    (hn : EntsAt Any w nv' R'.now.ents) (hx : EntsAt Any w xv' R'.next.ents) (hp : R'.pins = R.pins) : RefParts w' r R' nv' xv' pv qs := by
  have hF : ∀ g t cs, g = r → Blk w g t cs → t ≠ 114 ∧ t ≠ 5 := fun g t cs e hb2 => by
    subst e
    have := (hb2.det h.blk).2
    subst this
    exact ⟨by decide, by decide⟩
  exact ⟨hb, hn.keepsT k hF, hx.keepsT k hF, ownsRow_keeps h.pins k (fun g hg e => own_blk_ne h.pins h.blk (by decide) (by rw [hg, e])), by rw [h.pl, hp], fun q hq => (h.pe q hq).keepsT k hF⟩
section
variable {w : World} {r : Nat} {R : RSto} {S : List Nat}
set_option maxRecDepth 100000 in
set_option maxHeartbeats 2000000 in
theorem ref_put_no (h : RefAt w r R S) (ho : R.opened = false) (k : ByteArray) (v : Value) : Calls Tryz.prog 52 #[.pointer (some ⟨r, 0, none⟩), .string k, v] w fun e w' => e = .returned (.int .i64 54) ∧ Below w.heap.size w w' := by
  obtain ⟨nv, xv, pv, qs, h1, rfl⟩ := h
  have c5 : w.cell? ⟨r, 5, none⟩ = some (.bool false) := by have := h1.blk.cell 5; rw [← ho]; exact this
  clear h1 ho
  go_enter Tryz.func52, Tryz.ntmps52
  go_wp2
  go_ret
  exact ⟨rfl, Below.refl _ _⟩
set_option maxRecDepth 100000 in
set_option maxHeartbeats 2000000 in
theorem ref_put_badkey (h : RefAt w r R S) (ho : R.opened = true) (k : ByteArray) (v : Value) (hk : k.size = 0 ∨ 64 < k.size) : Calls Tryz.prog 52 #[.pointer (some ⟨r, 0, none⟩), .string k, v] w fun e w' => e = .returned (.int .i64 55) ∧ Below w.heap.size w w' := by
  obtain ⟨nv, xv, pv, qs, h1, rfl⟩ := h
  have c5 : w.cell? ⟨r, 5, none⟩ = some (.bool true) := by have := h1.blk.cell 5; rw [← ho]; exact this
  clear h1 ho
  rcases hk with hk | hk
  · have t1 : decide ((k.size : Int) < 1) = true := by simp; omega
    have HK := Lib.hid hk
    clear hk
    go_enter Tryz.func52, Tryz.ntmps52
    go_wp2
    go_ret
    exact ⟨rfl, Below.refl _ _⟩
  · have t1 : decide ((k.size : Int) < 1) = false := by simp; omega
    have t2 : decide ((64 : Int) < k.size) = true := by simp; omega
    go_enter Tryz.func52, Tryz.ntmps52
    go_wp2
    go_ret
    exact ⟨rfl, Below.refl _ _⟩
set_option maxRecDepth 100000 in
set_option maxHeartbeats 8000000 in
theorem ref_put (h : RefAt w r R S) (hok : RefOk R) (ho : R.opened = true) (k : ByteArray) (hk0 : 0 < k.size) (hk1 : k.size ≤ 64) {Q : Nat → Prop} (v : Value) (l : List UInt8) (hv : BytesAt Q w v l) (hl : l.length ≤ 65536) : Calls Tryz.prog 52 #[.pointer (some ⟨r, 0, none⟩), .string k, v] w fun e w' => e = .returned (.int .i64 0) ∧ RefPost w r (R.put k l) S w' := by
  obtain ⟨nv, xv, pv, qs, h1, rfl⟩ := h
  obtain ⟨Ax, cx, rfl⟩ := h1.next.slice
  obtain ⟨gv, cv, curv, rfl, _, _, hbv, hcl⟩ := hv.cells
  have HGV : Hid (gv ≠ r) := hbv.ne_ h1.blk (by decide)
  clear hbv
  have hb := h1.blk
  rw [ho] at hb
  have c5 := hb.cell 5
  have c3 := hb.cell 3
  have c4 := hb.cell 4
  have c7 := hb.cell 7
  have hlen := hok.next.1
  have hla := hok.last
  have HFI := Lib.hid (find_calls h1.next (R.next.gen : Int) k (by omega))
  have t1 : decide ((k.size : Int) < 1) = false := by simp; omega
  have t2 : decide ((64 : Int) < k.size) = false := by simp; omega
  have t3 : decide ((65536 : Int) < l.length) = false := by simp; omega
  have t4 : decide ((512 : Int) ≤ R.next.ents.length) = false := by simp; omega
  have HH := Lib.hid h1
  have HB := Lib.hid hb
  have HC := Lib.hid hcl
  have HO := Lib.hid ho
  clear h1 hb hcl hok ho hv
  go_enter Tryz.func52, Tryz.ntmps52
  have hcases : decide (findInt R.next.ents k < 0) = true ∨ decide (findInt R.next.ents k < 0) = false := by cases decide (findInt R.next.ents k < 0) <;> simp
  rcases hcases with t5 | t5
  all_goals
    go_wp2_with (go_at_call 81; refine HFI.out.mono ?_; rintro e w1 ⟨rfl, hb1⟩; have HB1 := Lib.hid hb1; have hbl := HB.out.below hb1 HB.out.lt; have HBL := Lib.hid hbl; clear hb1; have d4 := hbl.cell 4; have d7 := hbl.cell 7; have f7 := hbl.frozen 7; clear hbl)
    obtain ⟨la, hla⟩ : ∃ la : Nat, (la : Int) = (R.last : Int) + 1 := ⟨R.last + 1, by simp⟩
    have HLA := Lib.hid hla
    obtain ⟨W, hW⟩ : ∃ W, W = w1.setCell ⟨r, 7, none⟩ (.int .i64 ((R.last : Int) + 1)) := ⟨_, rfl⟩
    have HW := Lib.hid hW
    have hbw : Blk W r 51 #[.int .i64 (R.blocks : Int), .int .i64 (R.now.gen : Int), nv, .int .i64 (R.next.gen : Int), .slice Ax R.next.ents.length cx, .bool true, pv, .int .i64 (la : Int)] := by
      rw [hW, hla]
      exact HBL.out.set_ 7 _
    have kw1 : Keeps (· = r) w1 W := by rw [hW]; exact Keeps.set1 w1 r 7 _
    rw [← hW]
    have kw : Keeps (· = r) w W := (Keeps.of_below (F := (· = r)) HB1.out).trans kw1 (fun _ _ h => h)
    have hTr : ∀ g t cs, g = r → Blk w g t cs → t ≠ 114 ∧ t ≠ 5 := fun g t cs e hb2 => by
      subst e
      have := (hb2.det HB.out).2
      subst this
      exact ⟨by decide, by decide⟩
    have HX := Lib.hid (HH.out.next.keepsT kw hTr)
    have HC2 : Hid (∀ o, Cells (W.drew.alloc o) gv 0 (l.map bv)) := fun o => HC.out.keeps ((kw.drew).alloc o) HGV.out
    have HBW := Lib.hid hbw
    have HKW := Lib.hid kw
    have w3 : W.cell? ⟨r, 3, none⟩ = some (.int .i64 (R.next.gen : Int)) := hbw.cell 3
    have w4 : W.cell? ⟨r, 4, none⟩ = some (.slice Ax R.next.ents.length cx) := hbw.cell 4
    have w7 : W.cell? ⟨r, 7, none⟩ = some (.int .i64 (la : Int)) := hbw.cell 7
    have w3a : ∀ o, (W.alloc o).cell? ⟨r, 3, none⟩ = some (.int .i64 (R.next.gen : Int)) := fun o => (hbw.alloc o).cell 3
    have w4a : ∀ o, (W.alloc o).cell? ⟨r, 4, none⟩ = some (.slice Ax R.next.ents.length cx) := fun o => (hbw.alloc o).cell 4
    have w7a : ∀ o, (W.alloc o).cell? ⟨r, 7, none⟩ = some (.int .i64 (la : Int)) := fun o => (hbw.alloc o).cell 7
    clear hla hW hbw kw1 kw hTr d4 d7 f7
    go_region_law
      (first
        | (refine step_append_bytes (by rfl) _ _ (by rfl) (by rfl) (empty_ownB W.drew) (by rfl) (HC2.out _) (by omega) (by simp) ?_; intro g5 cap5 w5 hB5 hg5; have B5 := Blk.grown (Blk.alloc HBW.out.drew _) hg5 (by intro e; have e : W.drew.heap.size = r := (by injection e); have := HBW.out.lt; have e2 : W.drew.heap.size = W.heap.size := rfl; omega); have hb5 : Below W.heap.size W w5 := (((Below.refl _ W).drew_).alloc (Nat.le_refl _) _).grown hg5 (by simp) (fun q hq => by injection hq with hq; subst hq; exact Nat.le_refl _); have v3 : w5.cell? ⟨r, 3, none⟩ = some (.int .i64 (R.next.gen : Int)) := B5.cell 3; have v4 : w5.cell? ⟨r, 4, none⟩ = some (.slice Ax R.next.ents.length cx) := B5.cell 4; have v7 : w5.cell? ⟨r, 7, none⟩ = some (.int .i64 (la : Int)) := B5.cell 7)
        | ((try go_simp); go_at_call 104; refine (with_calls (P := Any) (w := w5) (E := R.next.ents) (HX.out.below hb5) (R.next.gen : Int) ⟨k, l, la⟩ (.slice (some ⟨g5, 0, none⟩) l.length cap5) (hB5.mono fun _ _ => trivial) (by omega)).mono ?_; rintro e w6 ⟨A6, c6, rfl, hE6, hb6⟩; have B6 := Blk.below B5 hb6 B5.lt; have z3 : w6.cell? ⟨r, 3, none⟩ = some (.int .i64 (R.next.gen : Int)) := B6.cell 3; have z4 : w6.cell? ⟨r, 4, none⟩ = some (.slice Ax R.next.ents.length cx) := B6.cell 4; have f3 := B6.frozen 3; have f4 := B6.frozen 4))
    all_goals
      have hb6' : Below W.heap.size W w6 := hb5.trans (hb6.mono hb5.size)
      have HB6 := Lib.hid hb6'
      have HE6 := Lib.hid hE6
      have HBK6 := Lib.hid B6
      clear hb6' hb6 hb5 hE6 B6 B5 hB5 hg5
      go_wp2
      go_ret
      have kw1 : Keeps (· = r) w W := HKW.out
      have p1 := HH.out.turned_ (R' := { R with last := la }) kw1 (by rw [show ({ R with last := la } : RSto).opened = true from HO.out]; exact HBW.out) HH.out.now HH.out.next rfl
      have p2 := p1.keeps (F := fun _ => False) (Keeps.of_below HB6.out) (fun _ h => h.elim) (fun _ _ _ h => h.elim)
      have hle : la = R.last + 1 := by have := HLA.out; omega
      have ht := p2.turn (R' := R.put k l) ((Keeps.set1 w6 r 3 _).trans (Keeps.set1 _ r 4 _) (fun _ _ h => h)) (by
        have := ((HBK6.out.set_ 3 (.int .i64 (R.next.gen : Int))).set_ 4 (.slice A6 (withE ⟨k, l, la⟩ R.next.ents).length c6))
        rw [hle] at this
        rw [show (R.put k l).opened = true from HO.out]
        exact this) p2.now (by have := HE6.out; rw [hle] at this; exact this) rfl
      obtain ⟨S', a1, a2, a3⟩ := ht
      have hsz : w.heap.size ≤ w6.heap.size := Nat.le_trans kw1.size HB6.out.size
      rw [hle]
      exact ⟨rfl, S', a1, fun q hq => (a2 q hq).imp id fun h => Nat.le_trans hsz h, ((kw1.weaken (F := (· ∈ _)) fun g _ e => by subst e; simp).trans (Keeps.of_below (F := fun _ => False) HB6.out) fun _ _ h => h.elim).trans a3 fun _ _ h => h⟩
end

end Go.Proofs.YtbgiklkpinflaaaGreat

namespace Go.Proofs.YtbgiklkpinflaaaGreat
open Go.RowKit Go.Shelf
attribute [local go_sem ↓] Go.wp_at_zero Go.wp_at_succ

theorem heldTo_succ {α : Type} {l : List (α × Bool)} {i : Nat} {p : α × Bool} (h : l[i]? = some p) : heldTo l (i + 1) = heldTo l i + if p.2 then 1 else 0 := by
  obtain ⟨hj, rfl⟩ := List.getElem?_eq_some_iff.1 h
  unfold heldTo
  rw [List.take_succ_eq_append_getElem hj, List.filter_append, List.length_append]
  congr 1
  cases h2 : l[i].2 <;> simp [h2]
theorem heldTo_le {α : Type} (l : List (α × Bool)) (i : Nat) : heldTo l i ≤ i := by
  unfold heldTo
  refine Nat.le_trans (List.length_filter_le _ _) ?_
  rw [List.length_take]
  exact Nat.min_le_left _ _
/-- What Snapshot leaves. -/
def SnapRet (w : World) (r : Nat) (R : RSto) (S : List Nat) (e : Ending) (w' : World) : Prop :=
  (16 ≤ heldTo R.pins R.pins.length → e = .returned (.tuple #[.int .i64 0, .int .i64 4]) ∧ Below w.heap.size w w') ∧ (heldTo R.pins R.pins.length < 16 → e = .returned (.tuple #[.int .i64 (R.pins.length : Int), .int .i64 0]) ∧ RefPost w r R.snap S w')
theorem snapr_end {w w2 w3 : World} {r : Nat} {R : RSto} {nv xv pv sv3 : Value} {qs : List ((RSt × Bool) × Value)} (h : RefParts w r R nv xv pv qs) (hB : Below w.heap.size w w2)
    (hown : w3.ownsRow 0 48 3 sv3 (qs.length + 1) (pinCells qs ++ [.int .i64 (R.now.gen : Int), nv, .bool true])) (hgrow : w2.grownBy w3 pv.ownBlock)
    (hat : sv3.ownBlock = pv.ownBlock ∨ ∃ g, sv3.ownBlock = some g ∧ w2.heap.size ≤ g) :
    RefPost w r R.snap (r :: pv.ownBlock.toList) (w3.setCell ⟨r, 6, none⟩ sv3) := by
  have hso : pv.ownBlock ≠ some r := own_blk_ne h.pins h.blk (by decide)
  have k : Keeps (fun g => g = r ∨ pv.ownBlock = some g) w (w3.setCell ⟨r, 6, none⟩ sv3) :=
    ((Keeps.of_below (F := fun g => g = r ∨ pv.ownBlock = some g) hB).grown hgrow (fun g hr _ => .inr hr)).setCell (p := ⟨r, 6, none⟩) (fun _ => .inl rfl) sv3
  have hF : ∀ g t cs, (g = r ∨ pv.ownBlock = some g) → Blk w g t cs → t ≠ 114 ∧ t ≠ 5 := fun g t cs e hb2 => by
    obtain ⟨t', cs', hb', ht⟩ := h.own g (by simp only [List.mem_cons, Option.mem_toList]; exact e)
    rw [(hb2.det hb').2]
    rcases ht with h | h
    all_goals
      subst h
      exact ⟨by decide, by decide⟩
  have hr3 : Blk w3 r 51 _ := (Blk.below h.blk hB h.blk.lt).grown hgrow hso
  have hso3 : sv3.ownBlock ≠ some r := by
    rcases hat with e | ⟨g, e, hg⟩
    · rw [e]; exact hso
    · rw [e]
      intro e2
      have e3 : g = r := by simpa using e2
      have := h.blk.lt
      have := hB.size
      omega
  refine ⟨_, ⟨nv, xv, sv3, qs ++ [((R.now, true), nv)], ⟨hr3.set_ 6 sv3, h.now.keepsT k hF, h.next.keepsT k hF, ?_, ?_, ?_⟩, rfl⟩, ?_, k.weaken ?_⟩
  · have := ownsRow_keeps hown (Keeps.set1 w3 r 6 sv3) (fun g hg e => hso3 (by rw [hg, e]))
    rw [List.length_append, pinCells_append]
    exact this
  · rw [List.map_append, h.pl]
    rfl
  · intro q hq
    rcases List.mem_append.1 hq with hq | hq
    · exact (h.pe q hq).keepsT k hF
    · rw [List.mem_singleton] at hq
      subst hq
      exact h.now.keepsT k hF
  · intro i hi
    simp only [List.mem_cons, Option.mem_toList] at hi ⊢
    rcases hi with h1 | h1
    · exact .inl (.inl h1)
    · rcases hat with e | ⟨g, e, hg⟩
      · rw [e] at h1
        exact .inl (.inr h1)
      · rw [e] at h1
        have e3 : g = i := by simpa using h1
        have := hB.size
        exact .inr (by omega)
  · intro g _ e
    simp only [List.mem_cons, Option.mem_toList]
    exact e
set_option maxRecDepth 100000 in
set_option maxHeartbeats 8000000 in
theorem ref_snapshot {w : World} {r : Nat} {R : RSto} {S : List Nat} (h : RefAt w r R S) (hpn : R.pins.length ≤ 1000) : Calls Tryz.prog 15 #[.pointer (some ⟨r, 0, none⟩)] w (SnapRet w r R S) := by
  obtain ⟨nv, xv, pv, qs, h1, rfl⟩ := h
  obtain ⟨An, cn, rfl⟩ := h1.now.slice
  obtain ⟨Ap, cp, rfl, hpc⟩ := pins_cells h1.pins
  have hpl := h1.pl
  have hql : qs.length = R.pins.length := by rw [← hpl, List.length_map]
  have hheld : ∀ j q, qs[j]? = some q → heldTo R.pins (j + 1) = heldTo R.pins j + if q.1.2 then 1 else 0 := fun j q hq => heldTo_succ (by rw [← hpl, List.getElem?_map, hq]; rfl)
  have HHE := Lib.hid hheld
  have HLE : Hid (∀ j, heldTo R.pins j ≤ j) := fun j => heldTo_le _ _
  have HQL := Lib.hid hql
  have HH := Lib.hid h1
  have HPC := Lib.hid hpc
  have hq1000 : qs.length ≤ 1000 := by omega
  have c6 := h1.blk.cell 6
  have HP2 : Hid (∀ (w' : World) (v : Value), RefPost w r R.snap (r :: (Value.slice Ap qs.length cp).ownBlock.toList) w' → RefPost w r R.snap (r :: (Value.slice Ap qs.length cp).ownBlock.toList) w') := fun _ _ h => h
  obtain ⟨ip, hip, pz0, pz1, pz2⟩ := info_parts Tryz.infoPin
  obtain ⟨S0, hS0⟩ : ∃ S0, S0 = r :: (Value.slice Ap qs.length cp).ownBlock.toList := ⟨_, rfl⟩
  rw [← hS0]
  have HS0 := Lib.hid hS0
  clear h1 hpc hpl hheld hql HP2 hS0 hpn
  go_enter Tryz.func15, Tryz.ntmps15
  go_wp2
  go_loopw [4, 12] (fun o x wr => ∃ j : Nat, j ≤ qs.length ∧ x = .int .i64 j ∧ o = .int .i64 (heldTo R.pins j : Int) ∧ Below w.heap.size w wr) (fun _ x _ => qs.length - (intOf x).toNat)
  case atStart => exact ⟨0, Nat.zero_le _, rfl, by simp [heldTo], Below.refl _ _⟩
  case round =>
    obtain ⟨j, hj, rfl, rfl, hM⟩ := hrel
    have HM := Lib.hid hM
    have hjl := HLE.out j
    by_cases hlt : j < qs.length
    · have tk : decide ((j : Int) < (qs.length : Int)) = true := by simp; omega
      obtain ⟨g, rfl, q0, q1, q2⟩ := HPC.out j _ (List.getElem?_eq_getElem hlt)
      obtain ⟨Aq, cq, hq2⟩ := (HH.out.pe _ (List.getElem_mem hlt)).slice
      rw [hq2] at q1
      have q0 := (hM.cell (World.block_lt_of_cell? w _ q0)).trans q0
      have q1 := (hM.cell (World.block_lt_of_cell? w _ q1)).trans q1
      have q2 := (hM.cell (World.block_lt_of_cell? w _ q2)).trans q2
      have HT := Lib.hid (HHE.out j _ (List.getElem?_eq_getElem hlt))
      obtain ⟨q, hq⟩ : ∃ q, q = qs[j] := ⟨_, rfl⟩
      rw [← hq] at q0 q1 q2 HT
      obtain ⟨n, hn⟩ : ∃ n, n = heldTo R.pins j := ⟨_, rfl⟩
      rw [← hn] at HT hjl ⊢
      obtain ⟨b, hb⟩ : ∃ b, b = q.1.2 := ⟨_, rfl⟩
      rw [← hb] at q2 HT
      have HTI : Hid ((heldTo R.pins (j + 1) : Int) = (n : Int) + if b then 1 else 0) := by
        show ((heldTo R.pins (j + 1) : Nat) : Int) = (n : Int) + if b then 1 else 0
        rw [HT.out]
        cases b <;> simp
      clear hM hq hq2 hn hb HT
      cases b with
      | true =>
        go_wp2
        go_roundw
        case rel =>
          refine ⟨j + 1, by omega, by go_num, ?_, HM.out.alloc HM.out.size _⟩
          rw [HTI.out]
          simp
        case measure => simp [intOf]; omega
      | false =>
        go_wp2
        go_roundw
        case rel =>
          refine ⟨j + 1, by omega, by go_num, ?_, HM.out.alloc HM.out.size _⟩
          rw [HTI.out]
          simp
        case measure => simp [intOf]; omega
    · obtain rfl : j = qs.length := by omega
      have tk : decide ((qs.length : Int) < qs.length) = false := by simp
      have hblk := HH.out.blk.below hM HH.out.blk.lt
      have HBK := Lib.hid hblk
      obtain ⟨n, hn⟩ : ∃ n, n = heldTo R.pins qs.length := ⟨_, rfl⟩
      rw [← hn] at hjl ⊢
      have HN : Hid (n = heldTo R.pins R.pins.length) := by
        show n = _
        rw [hn, HQL.out]
      clear hM hn
      by_cases hf : 16 ≤ n
      · have t1 : decide ((16 : Int) ≤ n) = true := by simp; omega
        clear hblk
        go_wp2
        go_ret2
        refine ⟨fun _ => ⟨rfl, HM.out⟩, fun h => ?_⟩
        rw [← HN.out] at h
        omega
      · have t1 : decide ((16 : Int) ≤ n) = false := by simp; omega
        have d1 := hblk.cell 1
        have d2 := hblk.cell 2
        have d6 := hblk.cell 6
        have e1 : ∀ o, (wr.alloc o).cell? ⟨r, 1, none⟩ = some (.int .i64 (R.now.gen : Int)) := fun o => (hblk.alloc o).cell 1
        have e2 : ∀ o, (wr.alloc o).cell? ⟨r, 2, none⟩ = some (.slice An R.now.ents.length cn) := fun o => (hblk.alloc o).cell 2
        have e6 : ∀ o, (wr.alloc o).cell? ⟨r, 6, none⟩ = some (.slice Ap qs.length cp) := fun o => (hblk.alloc o).cell 6
        have HRN : Hid (r < wr.heap.size) := hblk.lt
        clear hblk
        go_wp2
        go_region_law
          (refine step_append_lies _ (by rfl) _ _ _ (by rfl) 0 48 ip _ 3 40 Tryz.underlying49 hip pz0 pz1 pz2 rfl (by omega) (.slice Ap qs.length cp) qs.length (pinCells qs) (by rfl) (((ownsRow_keeps HH.out.pins (Keeps.of_below (F := fun _ => False) HM.out) (fun _ _ h => h)).drew).alloc _)
            ⟨wr.heap.size, 0, none⟩ 1 1 [.int .i64 (R.now.gen : Int), .slice An R.now.ents.length cn, .bool true] (by rfl) (by rfl) (World.news_of_block (cs := #[.int .i64 (R.now.gen : Int), .slice An R.now.ents.length cn, .bool true]) (t := 48) (fr := (0, 0)) (heap_alloc_new _ _)) (by simp [Value.oneCell'])
            (by omega) (by unfold maxLen; omega) (by omega) (by omega) (wr.heap.size + 1) (by simp) ?_; intro gg cap2 w3 hown3 hgrow hat hlt3; have B3 := ((HBK.out.drew).alloc _).grown hgrow (own_blk_ne HH.out.pins HH.out.blk (by decide)); have hc3 := (B3.at1 6 _ rfl).1; have hf3 := B3.frozen 6)
        all_goals
          have HW3 := Lib.hid hown3
          have HG3 := Lib.hid hgrow
          have HT3 := Lib.hid hat
          have B4 := Lib.hid (B3.set_ 6 (.slice (some ⟨gg, 0, none⟩) (qs.length + 1) cap2))
          clear hown3 hgrow hat B3
          have k6 := B4.out.cell 6
          go_wp2
          go_ret2
          refine ⟨fun h => by rw [← HN.out] at h; omega, fun _ => ⟨?_, ?_⟩⟩
          · rw [← HQL.out]
            go_num
          · rw [HS0.out]
            refine snapr_end HH.out (((HM.out).drew_).alloc HM.out.size _) HW3.out HG3.out ?_
            rcases HT3.out with h | h
            · exact .inl (by rw [h]; rfl)
            · exact .inr ⟨gg, rfl, by simp; omega⟩

end Go.Proofs.YtbgiklkpinflaaaGreat
