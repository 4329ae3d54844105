/- Delete. Abort. Keys of a store and of a snapshot; a snapshot's Generation; Snapshot where it is refused. -/
import Derived.Test.YtbgiklkpinflaaaGreatSnapA
import Derived.Test.YtbgiklkpinflaaaGreatJoB

namespace Go.Proofs.YtbgiklkpinflaaaGreat
open Go.RowKit Go.Shelf Go.Maps
attribute [local go_sem ↓] Go.wp_at_zero Go.wp_at_succ

set_option maxRecDepth 100000 in
set_option maxHeartbeats 2000000 in
theorem delete_closed {P : Nat → Prop} {w : World} {s d life a : Nat} {pv nv gv : Value} {op : Bool} {D : Dsk} {S : List Nat} (hs : StoBlk w s d life a pv op nv gv) (hD : DiskAt P w d D S) (hno : readyCode life D op ≠ 0) (key : ByteArray) :
    Calls Tryz.prog 53 #[.pointer (some ⟨s, 0, none⟩), .string key] w fun e w' => e = .returned (.int .i64 (readyCode life D op)) ∧ ∃ n, w' = w.drewN n := by
  have HR := Lib.hid (ready_calls hs hD)
  obtain ⟨c, hc⟩ : ∃ c, c = readyCode life D op := ⟨_, rfl⟩
  rw [← hc] at HR hno ⊢
  have t0 : (c == 0) = false := by rw [beq_eq_false_iff_ne]; exact hno
  have t1 : (c != 0) = true := by rw [bne_iff_ne]; exact hno
  clear hs hc
  go_enter Tryz.func53, Tryz.ntmps53
  go_wp2_with (go_at_call 70; refine HR.out.mono ?_; rintro e w' ⟨rfl, n, rfl⟩)
  go_ret
  exact ⟨rfl, _, rfl⟩
set_option maxRecDepth 100000 in
set_option maxHeartbeats 2000000 in
theorem abort_closed {P : Nat → Prop} {w : World} {s d life a : Nat} {pv nv gv : Value} {op : Bool} {D : Dsk} {S : List Nat} (hs : StoBlk w s d life a pv op nv gv) (hD : DiskAt P w d D S) (hno : readyCode life D op ≠ 0) :
    Calls Tryz.prog 55 #[.pointer (some ⟨s, 0, none⟩)] w fun e w' => e = .returned (.int .i64 (readyCode life D op)) ∧ ∃ n, w' = w.drewN n := by
  have HR := Lib.hid (ready_calls hs hD)
  obtain ⟨c, hc⟩ : ∃ c, c = readyCode life D op := ⟨_, rfl⟩
  rw [← hc] at HR hno ⊢
  have t0 : (c == 0) = false := by rw [beq_eq_false_iff_ne]; exact hno
  have t1 : (c != 0) = true := by rw [bne_iff_ne]; exact hno
  clear hs hc
  go_enter Tryz.func55, Tryz.ntmps55
  go_wp2_with (go_at_call 70; refine HR.out.mono ?_; rintro e w' ⟨rfl, n, rfl⟩)
  go_ret
  exact ⟨rfl, _, rfl⟩
set_option maxRecDepth 100000 in
set_option maxHeartbeats 2000000 in
theorem abort_yes {P : Nat → Prop} {w : World} {s d life a : Nat} {pv nv gv : Value} {D : Dsk} {S : List Nat} (hs : StoBlk w s d life a pv true nv gv) (hD : DiskAt P w d D S) (hdd : isDead life D = false) :
    Calls Tryz.prog 55 #[.pointer (some ⟨s, 0, none⟩)] w fun e w' => e = .returned (.int .i64 0) ∧ StoBlk w' s d life a pv false (.map none) (.map none) ∧ Keeps (· = s) w w' := by
  have hrc : readyCode life D true = 0 := by unfold readyCode; rw [hdd]; rfl
  have HR := Lib.hid (ready_calls hs hD)
  rw [hrc] at HR
  have HS := Lib.hid hs
  clear hs hrc hdd
  go_enter Tryz.func55, Tryz.ntmps55
  go_wp2_with (go_at_call 70; refine HR.out.mono ?_; rintro e w1 ⟨rfl, nq, hw1⟩; have hs1 : Blk w1 s 100 _ := (by rw [hw1]; exact Blk.drewN HS.out nq); have HK : Hid (Keeps (· = s) w w1) := (by show Keeps (· = s) w w1; rw [hw1]; exact (Keeps.refl _ w).drewN nq); clear hw1; have HS1 := Lib.hid hs1; have q4 := (hs1.at1 4 _ rfl).1; have q5 := (hs1.at1 5 _ rfl).1; have q6 := (hs1.at1 6 _ rfl).1; have f4 := hs1.frozen 4; have f5 := hs1.frozen 5; have f6 := hs1.frozen 6; clear hs1)
  go_ret
  refine ⟨rfl, ((HS1.out.set_ 4 (.bool false)).set_ 5 (.map none)).set_ 6 (.map none), ?_⟩
  exact HK.out.trans (((Keeps.set1 _ s 4 _).trans (Keeps.set1 _ s 5 _) (fun _ _ h => h)).trans (Keeps.set1 _ s 6 _) (fun _ _ h => h)) (fun _ _ h => h)

set_option maxRecDepth 100000 in
set_option maxHeartbeats 4000000 in
/-- Delete of a key that is not there. -/
theorem delete_nokey {P : Nat → Prop} {w : World} {s d life a mb nb gb : Nat} {pv : Value} {D : Dsk} {S : List Nat} {st : St} {Mn : List (List UInt8 × Value)} {gs : List (List UInt8 × Unit)} (hs : StoBlk w s d life a pv true (.map (some nb)) (.map (some gb))) (hD : DiskAt P w d D S) (hst : StateAt w a mb st) (hN : MapAt w nb Mn) (hG : GoneAt w gb gs) (hkn : ∀ x ∈ Mn, ∃ A n c, x.2 = .slice A n c)
    (hdd : isDead life D = false) (key : ByteArray) (hks : key.size ≤ maxLen) (hno : ((mget Mn key.data.toList).isSome || ((mget st.places key.data.toList).isSome && !(mget gs key.data.toList).isSome)) = false) :
    Calls Tryz.prog 53 #[.pointer (some ⟨s, 0, none⟩), .string key] w fun e w' => e = .returned (.int .i64 55) ∧ Below w.heap.size w w' := by
  have hrc : readyCode life D true = 0 := by unfold readyCode; rw [hdd]; rfl
  have HR := Lib.hid (ready_calls hs hD)
  rw [hrc] at HR
  have HS := Lib.hid hs
  have HST := Lib.hid hst
  have HN := Lib.hid hN
  have HG := Lib.hid hG
  have HKN := Lib.hid hkn
  have HNO := Lib.hid hno
  clear hrc hs hst hN hG hkn hD hdd hno
  go_enter Tryz.func53, Tryz.ntmps53
  go_wp2_with (go_at_call 70; refine HR.out.mono ?_; rintro e w1 ⟨rfl, nq, hw1⟩; have HB1 : Hid (Below w.heap.size w w1) := (by show Below w.heap.size w w1; rw [hw1]; exact (Below.refl _ w).drewN_ nq); clear hw1 nq)
  obtain ⟨hs1, hst1, hN1, hG1⟩ := parts_below HB1.out HS.out HST.out HN.out HG.out
  have HC := Lib.hid (has_calls hs1 hst1 hN1 hG1 HKN.out key hks)
  rw [HNO.out] at HC
  clear hs1 hst1 hN1 hG1
  go_wp2_with (refine HC.out.mono ?_; rintro e w2 ⟨rfl, hb2⟩; have HB2 : Hid (Below w.heap.size w w2) := HB1.out.trans (hb2.mono HB1.out.size); clear hb2)
  go_ret
  exact ⟨rfl, HB2.out⟩

theorem updG_run {w : World} {b : Nat} {gs : List (List UInt8 × Unit)} (hM : GoneAt w b gs) (hn : gs.length < 100000) (s : ByteArray) (hs : s.size ≤ maxLen) :
    ∃ w', (Instr.mapUpdate 98 (.map (some b)) (.string s) (.bool true)).run Tryz.prog w = .ok () w' ∧ GoneAt w' b (mput gs s.data.toList ()) ∧ w.grownBy w' (some b) := by
  obtain ⟨w', hrun, r1, r2⟩ := World.ownsMap.update (H := Value) hM Tryz.lawStr Tryz.underlying98 (by rw [mmap_length]; unfold maxLen; omega) (key_of s hs) (R := rv) (val := .bool true) (d := .held (.bool true)) (ps := []) rfl
  rw [mapD_put] at r1
  refine ⟨w', hrun, ?_, r2⟩
  have := MapAt.fit r1
  rw [← mmap_mput (fun _ : Unit => Value.bool true) gs s.data.toList ()] at this
  exact this

/-- What is gone behind Delete. -/
def goneNext (st : St) (gs : List (List UInt8 × Unit)) (k : List UInt8) : List (List UInt8 × Unit) := if (mget st.places k).isSome then mput gs k () else gs
set_option maxRecDepth 100000 in
set_option maxHeartbeats 4000000 in
/-- Delete of a key that is there. -/
theorem delete_yes {P : Nat → Prop} {w : World} {s d life a mb nb gb : Nat} {pv : Value} {D : Dsk} {S : List Nat} {st : St} {Mn : List (List UInt8 × Value)} {gs : List (List UInt8 × Unit)} (hs : StoBlk w s d life a pv true (.map (some nb)) (.map (some gb))) (hD : DiskAt P w d D S) (hst : StateAt w a mb st) (hN : MapAt w nb Mn) (hG : GoneAt w gb gs) (hng : nb ≠ gb) (hmn : mb ≠ nb) (hlg : gs.length ≤ 1000) (hkn : ∀ x ∈ Mn, ∃ A n c, x.2 = .slice A n c)
    (hdd : isDead life D = false) (key : ByteArray) (hks : key.size ≤ maxLen) (hyes : ((mget Mn key.data.toList).isSome || ((mget st.places key.data.toList).isSome && !(mget gs key.data.toList).isSome)) = true) :
    Calls Tryz.prog 53 #[.pointer (some ⟨s, 0, none⟩), .string key] w fun e w' => e = .returned (.int .i64 0) ∧ MapAt w' nb (mdel Mn key.data.toList) ∧ GoneAt w' gb (goneNext st gs key.data.toList) ∧ Keeps (fun k => k = nb ∨ k = gb) w w' := by
  have hrc : readyCode life D true = 0 := by unfold readyCode; rw [hdd]; rfl
  have HR := Lib.hid (ready_calls hs hD)
  rw [hrc] at HR
  have HS := Lib.hid hs
  have HST := Lib.hid hst
  have HN := Lib.hid hN
  have HG := Lib.hid hG
  have HKN := Lib.hid hkn
  have HYES := Lib.hid hyes
  have HNG := Lib.hid hng
  have HMN := Lib.hid hmn
  clear hrc hs hst hN hG hkn hD hdd hyes hng hmn
  go_enter Tryz.func53, Tryz.ntmps53
  go_wp2_with (go_at_call 70; refine HR.out.mono ?_; rintro e w1 ⟨rfl, nq, hw1⟩; have HB1 : Hid (Below w.heap.size w w1) := (by show Below w.heap.size w w1; rw [hw1]; exact (Below.refl _ w).drewN_ nq); clear hw1 nq)
  obtain ⟨hs1, hst1, hN1, hG1⟩ := parts_below HB1.out HS.out HST.out HN.out HG.out
  have HC := Lib.hid (has_calls hs1 hst1 hN1 hG1 HKN.out key hks)
  rw [HYES.out] at HC
  clear hs1 hst1 hN1 hG1
  cases hp : mget st.places key.data.toList with
  | none =>
    have HP := Lib.hid hp
    clear hp
    go_wp2_with (first
      | (go_at_call 101; refine HC.out.mono ?_; rintro e w2 ⟨rfl, hb2⟩; have HB2 : Hid (Below w.heap.size w w2) := HB1.out.trans (hb2.mono HB1.out.size); clear hb2; have c5 : w2.cell? ⟨s, 5, none⟩ = some (.map (some nb)) := (parts_below HB2.out HS.out HST.out HN.out HG.out).1.cell 5)
      | (at_delete; refine wpList_del _ rfl _ _ _ rfl 89 Tryz.underlying97 nb _ rfl (parts_below HB2.out HS.out HST.out HN.out HG.out).2.2.1 key rfl hks ?_; intro w4 hN4 hg4; have HN4 := Lib.hid hN4; have HK4 : Hid (Keeps (· = nb) w w4) := ((Keeps.of_below (F := (· = nb)) HB2.out).grown hg4 (fun g h _ => by cases h; rfl)); clear hN4 hg4; have HS4 : Hid (StoBlk w4 s d life a pv true (.map (some nb)) (.map (some gb))) := Blk.keeps HS.out HK4.out (fun e => MapAt.not_blk HN.out (e ▸ HS.out)); have HST4 : Hid (StateAt w4 a mb st) := HST.out.keeps HK4.out (fun g t cs hg hb => ((hg ▸ HN.out : MapAt w g Mn).not_blk hb).elim) HMN.out; have c2 : w4.cell? ⟨s, 2, none⟩ = some (.pointer (some ⟨a, 0, none⟩)) := HS4.out.cell 2; have c6 : w4.cell? ⟨s, 6, none⟩ = some (.map (some gb)) := HS4.out.cell 6; obtain ⟨sv, hb4, hnn, l, hM4, hps, hpl⟩ := HST4.out; have d1 : w4.cell? ⟨a, 1, none⟩ = some (.map (some mb)) := hb4.cell 1; have HM4 := Lib.hid hM4; have HP1 : Hid (mget (mmap (fun x : Value × Place => x.1) l) key.data.toList = none) := (by show mget _ _ = _; have := HP.out; rw [hps, mget_mmap] at this; rw [mget_mmap]; cases hq : mget l key.data.toList with | none => rfl | some q => rw [hq] at this; cases this); clear hb4 hnn hM4 hps hpl)
      | (at_lookup; refine wpList_get_ok_none _ rfl _ _ _ rfl 130 Tryz.underlying131 (Tryz.zeroValue130 _) mb _ rfl HM4.out key rfl hks HP1.out ?_))
    go_ret
    have HK5 := HK4.out.trans (Keeps.of_below (F := fun _ => False) ((Below.refl _ w4).alloc (Nat.le_refl _) (.cells #[.int .i64 0, .int .u32 0, .slice none 0 0] 130))) (fun _ _ h => h.elim)
    refine ⟨rfl, HN4.out.below ((Below.refl _ w4).alloc (Nat.le_refl _) _), ?_, HK5.weaken fun g _ h => .inl h⟩
    have e : goneNext st gs key.data.toList = gs := by unfold goneNext; rw [HP.out]; rfl
    rw [e]
    exact MapAt.keeps HG.out HK5 (fun e => HNG.out e.symm)
  | some p =>
    have HP := Lib.hid hp
    clear hp
    go_wp2_with (first
      | (go_at_call 101; refine HC.out.mono ?_; rintro e w2 ⟨rfl, hb2⟩; have HB2 : Hid (Below w.heap.size w w2) := HB1.out.trans (hb2.mono HB1.out.size); clear hb2; have c5 : w2.cell? ⟨s, 5, none⟩ = some (.map (some nb)) := (parts_below HB2.out HS.out HST.out HN.out HG.out).1.cell 5)
      | (at_delete; refine wpList_del _ rfl _ _ _ rfl 89 Tryz.underlying97 nb _ rfl (parts_below HB2.out HS.out HST.out HN.out HG.out).2.2.1 key rfl hks ?_; intro w4 hN4 hg4; have HN4 := Lib.hid hN4; have HK4 : Hid (Keeps (· = nb) w w4) := ((Keeps.of_below (F := (· = nb)) HB2.out).grown hg4 (fun g h _ => by cases h; rfl)); clear hN4 hg4; have HS4 : Hid (StoBlk w4 s d life a pv true (.map (some nb)) (.map (some gb))) := Blk.keeps HS.out HK4.out (fun e => MapAt.not_blk HN.out (e ▸ HS.out)); have HST4 : Hid (StateAt w4 a mb st) := HST.out.keeps HK4.out (fun g t cs hg hb => ((hg ▸ HN.out : MapAt w g Mn).not_blk hb).elim) HMN.out; have c2 : w4.cell? ⟨s, 2, none⟩ = some (.pointer (some ⟨a, 0, none⟩)) := HS4.out.cell 2; obtain ⟨sv, hb4, hnn, l, hM4, hps, hpl⟩ := HST4.out; have d1 : w4.cell? ⟨a, 1, none⟩ = some (.map (some mb)) := hb4.cell 1; have HM4 := Lib.hid hM4; obtain ⟨A5, n5, c5', HP1⟩ : ∃ (A5 : Option Addr) (n5 c5' : Nat), Hid (mget (mmap (fun x : Value × Place => x.1) l) key.data.toList = some (.agg #[.int .i64 (p.size : Int), .int .u32 p.sum, .slice A5 n5 c5'])) := (by have h1 := HP.out; rw [hps, mget_mmap] at h1; cases hq : mget l key.data.toList with | none => rw [hq] at h1; cases h1 | some q => rw [hq] at h1; injection h1 with h1; obtain ⟨sv5, hv5, A5, c5', hA5, _⟩ := hpl _ (mget_mem hq); refine ⟨A5, q.2.blocks.length, c5', ?_⟩; show mget _ _ = _; rw [mget_mmap, hq]; show some q.1 = _; rw [show q.1 = _ from hv5, hA5, show q.2 = p from h1]); clear hb4 hnn hM4 hps hpl; have c6 : ∀ o, (w4.alloc o).cell? ⟨s, 6, none⟩ = some (.map (some gb)) := fun o => (Blk.alloc HS4.out o).cell 6; obtain ⟨w6, hrun6, hG6, hg6⟩ := updG_run (w := w4.alloc (.cells #[.int .i64 (p.size : Int), .int .u32 p.sum, .slice A5 n5 c5'] 130)) (MapAt.below (MapAt.keeps HG.out HK4.out (fun e => HNG.out e.symm)) ((Below.refl _ w4).alloc (Nat.le_refl _) _)) (by omega) key hks; have HG6 := Lib.hid hG6; have HGR6 := Lib.hid hg6; clear hG6 hg6)
      | (at_lookup; refine wpList_get_ok_some _ rfl _ _ _ rfl 130 Tryz.underlying131 (Tryz.zeroValue130 _) mb _ rfl HM4.out key rfl hks _ HP1.out ?_))
    go_ret
    have HK5 := HK4.out.trans (Keeps.of_below (F := fun _ => False) ((Below.refl _ w4).alloc (Nat.le_refl _) (.cells #[.int .i64 (p.size : Int), .int .u32 p.sum, .slice A5 n5 c5'] 130))) (fun _ _ h => h.elim)
    refine ⟨rfl, ?_, ?_, (HK5.weaken (F := fun k => k = nb ∨ k = gb) fun g _ h => .inl h).trans (Keeps.of_grown (F := (· = gb)) HGR6.out (fun g h => by cases h; rfl)) fun _ _ h => .inr h⟩
    · exact (HN4.out.below ((Below.refl _ w4).alloc (Nat.le_refl _) _)).keeps (Keeps.of_grown (F := (· = gb)) HGR6.out (fun g h => by cases h; rfl)) HNG.out
    · have e : goneNext st gs key.data.toList = mput gs key.data.toList () := by unfold goneNext; rw [HP.out]; rfl
      rw [e]
      exact HG6.out

section
variable {P : Nat → Prop} {w : World} {s d : Nat} {X : Sto} {Q : List PinPlace} {O : List Nat}
theorem ston_delete_closed (h : StoN P w s d X Q O) (hno : readyCode X.life X.disk X.opened ≠ 0) (key : ByteArray) :
    Calls Tryz.prog 53 #[.pointer (some ⟨s, 0, none⟩), .string key] w fun e w' => e = .returned (.int .i64 (readyCode X.life X.disk X.opened)) ∧ Below w.heap.size w w' := by
  obtain ⟨Sd, T, a, mb, pv, nv, gv, h1, rfl⟩ := h
  refine (delete_closed h1.hs h1.disk hno key).mono ?_
  rintro e w' ⟨rfl, n, rfl⟩
  exact ⟨rfl, (Below.refl _ w).drewN_ n⟩
theorem ston_abort_closed (h : StoN P w s d X Q O) (hno : readyCode X.life X.disk X.opened ≠ 0) :
    Calls Tryz.prog 55 #[.pointer (some ⟨s, 0, none⟩)] w fun e w' => e = .returned (.int .i64 (readyCode X.life X.disk X.opened)) ∧ Below w.heap.size w w' := by
  obtain ⟨Sd, T, a, mb, pv, nv, gv, h1, rfl⟩ := h
  refine (abort_closed h1.hs h1.disk hno).mono ?_
  rintro e w' ⟨rfl, n, rfl⟩
  exact ⟨rfl, (Below.refl _ w).drewN_ n⟩
theorem ston_commit_closed (h : StoN P w s d X Q O) (hno : readyCode X.life X.disk X.opened ≠ 0) :
    Calls Tryz.prog 21 #[.pointer (some ⟨s, 0, none⟩)] w fun e w' => e = .returned (.int .i64 (readyCode X.life X.disk X.opened)) ∧ Below w.heap.size w w' := by
  obtain ⟨Sd, T, a, mb, pv, nv, gv, h1, rfl⟩ := h
  refine (commit_closed h1.hs h1.disk hno).mono ?_
  rintro e w' ⟨rfl, n, rfl⟩
  exact ⟨rfl, (Below.refl _ w).drewN_ n⟩
theorem ston_abort (h : StoN P w s d X Q O) (hdd : isDead X.life X.disk = false) (hop : X.opened = true) :
    Calls Tryz.prog 55 #[.pointer (some ⟨s, 0, none⟩)] w fun e w' => e = .returned (.int .i64 0) ∧ StoNPost P w s d X.aborted Q O w' := by
  obtain ⟨Sd, T, a, mb, pv, nv, gv, h1, rfl⟩ := h
  have hs := h1.hs
  rw [hop] at hs
  refine (abort_yes hs h1.disk hdd).mono ?_
  rintro e w' ⟨rfl, b1, k⟩
  have hF : ∀ g, g = s → g ∈ s :: (Sd ++ T) := fun g e => by simp [e]
  obtain ⟨r1, r2⟩ := h1.rest k hF
  refine ⟨rfl, _, StoParts.n_ (X := X.aborted) (T := []) ⟨b1, h1.disk_ k (fun g e => by simp [e]), r1, r2, .inl ⟨rfl, rfl, rfl, rfl⟩, by simp, by simp⟩, ?_, k.weaken fun g _ e => by simp [e]⟩
  intro i hi
  simp only [List.mem_cons, List.mem_append, List.not_mem_nil, false_or] at hi ⊢
  rcases hi with h | h | h
  · exact .inl (.inl h)
  · exact .inl (.inr (.inl h))
  · exact .inl (.inr (.inr (.inr h)))
theorem ston_delete_nokey (h : StoN P w s d X Q O) (hdd : isDead X.life X.disk = false) (hop : X.opened = true) (key : ByteArray) (hks : key.size ≤ maxLen) (hno : X.hasKey key.data.toList = false) :
    Calls Tryz.prog 53 #[.pointer (some ⟨s, 0, none⟩), .string key] w fun e w' => e = .returned (.int .i64 55) ∧ Below w.heap.size w w' := by
  obtain ⟨Sd, T, a, mb, pv, nv, gv, h1, rfl⟩ := h
  have hs := h1.hs
  rcases h1.trans with ⟨h2, _⟩ | ⟨h2, nb, gb, rfl, rfl, rfl, hng, ⟨L, hN, hL, hP⟩, hG⟩
  · rw [h2] at hop
    cases hop
  rw [h2] at hs
  have hg2 : (mget (mmap (fun x : Value × List UInt8 => x.1) L) key.data.toList).isSome = (mget X.notes key.data.toList).isSome := by
    rw [hL, mget_mmap, mget_mmap, Option.isSome_map, Option.isSome_map]
  exact delete_nokey hs h1.disk h1.now hN hG (fun x hx => by
    obtain ⟨y, hy, rfl⟩ := List.mem_map.1 hx
    obtain ⟨g, cap, cur, hv, _⟩ := hP y hy
    exact ⟨_, _, _, hv⟩) hdd key hks (by rw [hg2]; exact hno)
theorem ston_delete (h : StoN P w s d X Q O) (hdd : isDead X.life X.disk = false) (hop : X.opened = true) (hlg : X.gone.length ≤ 1000) (key : ByteArray) (hks : key.size ≤ maxLen) (hyes : X.hasKey key.data.toList = true) :
    Calls Tryz.prog 53 #[.pointer (some ⟨s, 0, none⟩), .string key] w fun e w' => e = .returned (.int .i64 0) ∧ StoNPost P w s d (X.struck_ key.data.toList) Q O w' := by
  obtain ⟨Sd, T, a, mb, pv, nv, gv, h1, rfl⟩ := h
  have hs := h1.hs
  rcases h1.trans with ⟨h2, _⟩ | ⟨h2, nb, gb, rfl, rfl, rfl, hng, ⟨L, hN, hL, hP⟩, hG⟩
  · rw [h2] at hop
    cases hop
  rw [h2] at hs
  have hg2 : (mget (mmap (fun x : Value × List UInt8 => x.1) L) key.data.toList).isSome = (mget X.notes key.data.toList).isSome := by
    rw [hL, mget_mmap, mget_mmap, Option.isSome_map, Option.isSome_map]
  have hmn : mb ≠ nb := fun e => h1.mbT (by simp [e])
  refine (delete_yes hs h1.disk h1.now hN hG hng hmn hlg (fun x hx => by
    obtain ⟨y, hy, rfl⟩ := List.mem_map.1 hx
    obtain ⟨g, cap, cur, hv, _⟩ := hP y hy
    exact ⟨_, _, _, hv⟩) hdd key hks (by rw [hg2]; exact hyes)).mono ?_
  rintro e w' ⟨rfl, b2, b3, k⟩
  have hF : ∀ g, (g = nb ∨ g = gb) → g ∈ s :: (Sd ++ [nb, gb]) := fun g e => by rcases e with rfl | rfl <;> simp
  obtain ⟨r1, r2⟩ := h1.rest k hF
  have hk' : Keeps (· ∈ s :: (Sd ++ ([nb, gb] ++ pv.ownBlock.toList))) w w' := k.weaken fun g _ e => by rcases e with rfl | rfl <;> simp
  have hsn : Blk w' s _ _ := Blk.keeps hs k (fun e => by
    rcases e with rfl | rfl
    · exact hN.not_blk hs
    · exact MapAt.not_blk hG hs)
  refine ⟨rfl, _, StoParts.n_ (X := X.struck_ key.data.toList) (T := [nb, gb]) ⟨by rw [show (X.struck_ key.data.toList).opened = true from h2]; exact hsn, h1.disk_ k (fun g e => by rcases e with rfl | rfl <;> simp), r1, r2, .inr ⟨h2, nb, gb, rfl, rfl, rfl, hng, ⟨mdel L key.data.toList, ?_, ?_, ?_⟩, b3⟩, h1.mbT, h1.pinT⟩, fun k hk => .inl hk, hk'⟩
  · rw [mmap_mdel]
    exact b2
  · show mdel X.notes _ = _
    rw [mmap_mdel, hL]
  · intro x hx
    exact (hP x (mdel_mem hx).1).keeps k fun g cs e _ hb => by
      rcases e with rfl | rfl
      · exact hN.not_blk hb
      · exact MapAt.not_blk hG hb
end

end Go.Proofs.YtbgiklkpinflaaaGreat

namespace Go.Proofs.YtbgiklkpinflaaaGreat
open Go.RowKit Go.Shelf Go.Maps
attribute [local go_sem ↓] Go.wp_at_zero Go.wp_at_succ

/-- The keys of a state. -/
def St.keys (st : St) : List (List UInt8) := st.places.map (·.1)
def KeysRet (ks : List (List UInt8)) (w : World) (e : Ending) (w' : World) : Prop := ∃ v, e = .returned (.tuple #[v, .int .i64 0]) ∧ StrsAt w' w.heap.size v ks ∧ Below w.heap.size w w'
/-- slices.Sorted(maps.Keys(st.places)). -/
theorem sorted_places {w : World} {a mb n : Nat} {st : St} (h : StateAt w a mb st) (hok : StOk n st) :
    Calls Tryz.prog 72 #[.func (.func 126) #[] #[.pointer (some ⟨w.heap.size, 0, none⟩)]] (w.alloc (.cells #[.map (some mb)] 131)) fun e w' => ∃ A c, e = .returned (.slice A st.keys.length c) ∧ StrsAt w' w.heap.size (.slice A st.keys.length c) st.keys ∧ Below w.heap.size w w' := by
  obtain ⟨sv, hb, hn, l, hM, hps, hpl⟩ := h
  have hlen : (mmap (fun x : Value × Place => x.1) l).length = st.places.length := by rw [hps, mmap_length, mmap_length]
  have hsrt : Srt (mmap (fun x : Value × Place => x.1) l) := by
    have h1 := hok.srt
    rw [hps] at h1
    unfold Srt mmap at h1 ⊢
    rw [List.pairwise_map] at h1 ⊢
    exact h1
  have hkeys : (mmap (fun x : Value × Place => x.1) l).map (·.1) = st.keys := by unfold St.keys; rw [hps]; simp [mmap]
  have hfew := hok.few
  refine (keys_places w mb _ hM hsrt (by rw [hlen]; omega)).mono ?_
  rintro e w' ⟨v, rfl, hstr, hb2⟩
  rw [hkeys] at hstr
  obtain ⟨A, c, rfl, _⟩ := strs_slice hstr
  exact ⟨A, c, rfl, hstr, hb2⟩

section
variable {P : Nat → Prop} {w : World} {s d : Nat} {X : Sto} {O : List Nat}
set_option maxRecDepth 100000 in
set_option maxHeartbeats 2000000 in
theorem sto_keys_dead (h : StoA P w s d X O) (hdd : isDead X.life X.disk = true) :
    Calls Tryz.prog 37 #[.pointer (some ⟨s, 0, none⟩)] w fun e w' => e = .returned (.tuple #[.slice none 0 0, .int .i64 50]) ∧ Below w.heap.size w w' := by
  obtain ⟨Sd, T, a, mb, pv, pins, nv, gv, h1, rfl⟩ := h
  have HDD := Lib.hid (dead_calls h1.hs h1.disk)
  rw [hdd] at HDD
  clear h1 hdd
  go_enter Tryz.func37, Tryz.ntmps37
  go_wp2_with (go_at_call 60; refine HDD.out.mono ?_; rintro e w1 ⟨rfl, nq, rfl⟩)
  go_ret2
  exact ⟨rfl, (Below.refl _ w).drewN_ _⟩
set_option maxRecDepth 100000 in
set_option maxHeartbeats 2000000 in
theorem sto_keys {n : Nat} (h : StoA P w s d X O) (hdd : isDead X.life X.disk = false) (hok : StOk n X.now) :
    Calls Tryz.prog 37 #[.pointer (some ⟨s, 0, none⟩)] w (KeysRet X.now.keys w) := by
  obtain ⟨Sd, T, a, mb, pv, pins, nv, gv, h1, rfl⟩ := h
  have HDD := Lib.hid (dead_calls h1.hs h1.disk)
  rw [hdd] at HDD
  have HS := Lib.hid h1.hs
  have HN := Lib.hid h1.now
  have HOK := Lib.hid hok
  obtain ⟨ks, hks⟩ : ∃ ks, ks = X.now.keys := ⟨_, rfl⟩
  have HKS := Lib.hid hks
  rw [← hks]
  clear h1 hdd hok hks
  go_enter Tryz.func37, Tryz.ntmps37
  go_wp2_with (first
    | (go_at_call 60; refine HDD.out.mono ?_; rintro e w1 ⟨rfl, nq, hw1⟩; have HB1 : Hid (Below w.heap.size w w1) := (by show Below w.heap.size w w1; rw [hw1]; exact (Below.refl _ w).drewN_ nq); clear hw1; have c2 : w1.cell? ⟨s, 2, none⟩ = some (.pointer (some ⟨a, 0, none⟩)) := (Blk.below HS.out HB1.out (Blk.lt HS.out)).cell 2; have HN1 := Lib.hid (HN.out.below HB1.out); have d1 : w1.cell? ⟨a, 1, none⟩ = some (.map (some mb)) := (by obtain ⟨sv, hb, _⟩ := HN1.out; exact hb.cell 1))
    | (go_at_call 88; refine (callsIn_wide.1 (Tryz.maps_Keys_88 _ _)).mono ?_; rintro e w' ⟨rfl, rfl⟩)
    | (go_at_call 72; refine (sorted_places HN1.out HOK.out).mono ?_; rw [← HKS.out]; rintro e w2 ⟨A, c, rfl, hstr, hb2⟩; have HSTR := Lib.hid hstr; have HB2 := Lib.hid hb2; clear hstr hb2))
  go_ret2
  exact ⟨_, rfl, ownsRow_base HB1.out.size HSTR.out, HB1.out.trans (HB2.out.mono HB1.out.size)⟩
set_option maxRecDepth 100000 in
set_option maxHeartbeats 2000000 in
theorem snap_keys {n : Nat} (h : StoA P w s d X O) {p a mb : Nat} {st : St} (hp : SnapAt w p s a mb st) (hdd : isDead X.life X.disk = false) (hok : StOk n st) :
    Calls Tryz.prog 61 #[.pointer (some ⟨p, 0, none⟩)] w (KeysRet st.keys w) := by
  have HR := Lib.hid (snap_ready h hp)
  rw [hdd] at HR
  have HP := Lib.hid hp
  have HOK := Lib.hid hok
  obtain ⟨ks, hks⟩ : ∃ ks, ks = st.keys := ⟨_, rfl⟩
  have HKS := Lib.hid hks
  rw [← hks]
  clear h hdd hok hks hp
  go_enter Tryz.func61, Tryz.ntmps61
  go_wp2_with (first
    | (go_at_call 106; refine HR.out.mono ?_; rintro e w1 ⟨rfl, nq, hw1⟩; have HB1 : Hid (Below w.heap.size w w1) := (by show Below w.heap.size w w1; rw [hw1]; exact (Below.refl _ w).drewN_ nq); clear hw1; have HP1 := Lib.hid (HP.out.below HB1.out); have c1 : w1.cell? ⟨p, 1, none⟩ = some (.pointer (some ⟨a, 0, none⟩)) := HP1.out.1.cell 1; have d1 : w1.cell? ⟨a, 1, none⟩ = some (.map (some mb)) := (by obtain ⟨sv, hb, _⟩ := HP1.out.2; exact hb.cell 1))
    | (go_at_call 88; refine (callsIn_wide.1 (Tryz.maps_Keys_88 _ _)).mono ?_; rintro e w' ⟨rfl, rfl⟩)
    | (go_at_call 72; refine (sorted_places HP1.out.2 HOK.out).mono ?_; rw [← HKS.out]; rintro e w2 ⟨A, c, rfl, hstr, hb2⟩; have HSTR := Lib.hid hstr; have HB2 := Lib.hid hb2; clear hstr hb2))
  go_ret2
  exact ⟨_, rfl, ownsRow_base HB1.out.size HSTR.out, HB1.out.trans (HB2.out.mono HB1.out.size)⟩
set_option maxRecDepth 100000 in
set_option maxHeartbeats 2000000 in
theorem snap_generation (h : StoA P w s d X O) {p a mb : Nat} {st : St} (hp : SnapAt w p s a mb st) :
    Calls Tryz.prog 62 #[.pointer (some ⟨p, 0, none⟩)] w fun e w' => e = .returned (.int .i64 (if isDead X.life X.disk then 0 else (st.gen : Int))) ∧ Below w.heap.size w w' := by
  have HR := Lib.hid (snap_ready h hp)
  have HP := Lib.hid hp
  clear h hp
  cases hdd : isDead X.life X.disk
  all_goals
    rw [hdd] at HR
    clear hdd
    go_enter Tryz.func62, Tryz.ntmps62
    go_wp2_with (go_at_call 106; refine HR.out.mono ?_; rintro e w1 ⟨rfl, nq, hw1⟩; have HB1 : Hid (Below w.heap.size w w1) := (by show Below w.heap.size w w1; rw [hw1]; exact (Below.refl _ w).drewN_ nq); clear hw1; have HP1 := Lib.hid (HP.out.below HB1.out); have c1 : w1.cell? ⟨p, 1, none⟩ = some (.pointer (some ⟨a, 0, none⟩)) := HP1.out.1.cell 1; have d0 : w1.cell? ⟨a, 0, none⟩ = some (.int .i64 (st.gen : Int)) := (by obtain ⟨sv, hb, _⟩ := HP1.out.2; exact hb.cell 0))
    go_ret
    exact ⟨rfl, HB1.out⟩
set_option maxRecDepth 100000 in
set_option maxHeartbeats 2000000 in
theorem sto_snapshot_dead (h : StoA P w s d X O) (hdd : isDead X.life X.disk = true) :
    Calls Tryz.prog 14 #[.pointer (some ⟨s, 0, none⟩)] w fun e w' => e = .returned (.tuple #[.pointer none, .int .i64 50]) ∧ Below w.heap.size w w' := by
  obtain ⟨Sd, T, a, mb, pv, pins, nv, gv, h1, rfl⟩ := h
  have HDD := Lib.hid (dead_calls h1.hs h1.disk)
  rw [hdd] at HDD
  clear h1 hdd
  go_enter Tryz.func14, Tryz.ntmps14
  go_wp2_with (go_at_call 60; refine HDD.out.mono ?_; rintro e w1 ⟨rfl, nq, rfl⟩)
  go_ret2
  exact ⟨rfl, (Below.refl _ w).drewN_ _⟩
set_option maxRecDepth 100000 in
set_option maxHeartbeats 2000000 in
theorem sto_snapshot_full (h : StoA P w s d X O) (hdd : isDead X.life X.disk = false) (hfull : 16 ≤ X.pins.length) (hl : X.pins.length ≤ 1000) :
    Calls Tryz.prog 14 #[.pointer (some ⟨s, 0, none⟩)] w fun e w' => e = .returned (.tuple #[.pointer none, .int .i64 4]) ∧ Below w.heap.size w w' := by
  obtain ⟨Sd, T, a, mb, pv, pins, nv, gv, h1, rfl⟩ := h
  obtain ⟨A, c, rfl, _⟩ := own_slice h1.hpins.own
  have HDD := Lib.hid (dead_calls h1.hs h1.disk)
  rw [hdd] at HDD
  have HS := Lib.hid h1.hs
  have hlen : 16 ≤ pins.length := by rw [h1.hpins.len]; exact hfull
  have hlt : decide (16 ≤ (pins.length : Int)) = true := by simp; omega
  clear h1 hdd hfull
  go_enter Tryz.func14, Tryz.ntmps14
  go_wp2_with (go_at_call 60; refine HDD.out.mono ?_; rintro e w1 ⟨rfl, nq, hw1⟩; have HB1 : Hid (Below w.heap.size w w1) := (by show Below w.heap.size w w1; rw [hw1]; exact (Below.refl _ w).drewN_ nq); clear hw1; have c3 : w1.cell? ⟨s, 3, none⟩ = some (.slice A pins.length c) := (Blk.below HS.out HB1.out (Blk.lt HS.out)).cell 3)
  go_ret2
  exact ⟨rfl, HB1.out⟩
end

/-- A snapshot that is released. -/
def SnapOff (w : World) (p : Nat) : Prop := Blk w p 103 #[.pointer none, .pointer none]
set_option maxRecDepth 100000 in
set_option maxHeartbeats 2000000 in
theorem off_ready {w : World} {p : Nat} (h : SnapOff w p) : Calls Tryz.prog 106 #[.pointer (some ⟨p, 0, none⟩)] w fun e w' => e = .returned (.int .i64 56) ∧ w = w' := by
  have c1 : w.cell? ⟨p, 1, none⟩ = some (.pointer none) := Blk.cell h 1
  clear h
  go_enter Tryz.func106, Tryz.ntmps106
  go_wp2
  go_ret
  exact ⟨rfl, rfl⟩
set_option maxRecDepth 100000 in
set_option maxHeartbeats 2000000 in
theorem off_generation {w : World} {p : Nat} (h : SnapOff w p) : Calls Tryz.prog 62 #[.pointer (some ⟨p, 0, none⟩)] w fun e w' => e = .returned (.int .i64 0) ∧ Below w.heap.size w w' := by
  have HR := Lib.hid (off_ready h)
  clear h
  go_enter Tryz.func62, Tryz.ntmps62
  go_wp2_with (go_at_call 106; refine HR.out.mono ?_; rintro e w1 ⟨rfl, rfl⟩)
  go_ret
  exact ⟨rfl, Below.refl _ _⟩
set_option maxRecDepth 100000 in
set_option maxHeartbeats 2000000 in
theorem off_get {w : World} {p : Nat} (h : SnapOff w p) (key : ByteArray) : Calls Tryz.prog 63 #[.pointer (some ⟨p, 0, none⟩), .string key] w fun e w' => e = .returned (.tuple #[.slice none 0 0, .int .i64 56]) ∧ Below w.heap.size w w' := by
  have HR := Lib.hid (off_ready h)
  clear h
  go_enter Tryz.func63, Tryz.ntmps63
  go_wp2_with (go_at_call 106; refine HR.out.mono ?_; rintro e w1 ⟨rfl, rfl⟩)
  go_ret2
  exact ⟨rfl, Below.refl _ _⟩
set_option maxRecDepth 100000 in
set_option maxHeartbeats 2000000 in
theorem off_release {w : World} {p : Nat} (h : SnapOff w p) : Calls Tryz.prog 18 #[.pointer (some ⟨p, 0, none⟩)] w fun e w' => e = .returned (.int .i64 56) ∧ Below w.heap.size w w' := by
  have c1 : ∀ o, (w.alloc o).cell? ⟨p, 1, none⟩ = some (.pointer none) := fun o => (Blk.alloc h o).cell 1
  clear h
  go_enter Tryz.func18, Tryz.ntmps18
  go_wp2
  go_ret
  exact ⟨rfl, (Below.refl _ _).alloc (Nat.le_refl _) _⟩

end Go.Proofs.YtbgiklkpinflaaaGreat
