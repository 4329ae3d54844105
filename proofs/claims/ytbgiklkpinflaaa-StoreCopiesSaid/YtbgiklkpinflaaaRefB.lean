/- The reference's disk: Write. The reference's disk: settle. The reference's disk: Sync, Crash, Arm. -/
import Derived.Test.YtbgiklkpinflaaaRefA

namespace Go.Proofs.Ytbgiklkpinflaaa.Ref
open Go.RowKit Go.Shelf
open Go.Proofs.Ytbgiklkpinflaaa hiding DiskRep DiskAt After PenSlice Settling Crashing
attribute [local go_sem ↓] Go.wp_at_zero Go.wp_at_succ

theorem read_any {P : Nat → Prop} {b : Nat} {D : Dsk} {S : List Nat} (w : World) (h : DiskAt P w b D S) (hn : D.pending.length ≤ 1000000000) (i : Int) :
    Calls Try.prog 45 #[.pointer (some ⟨b, 0, none⟩), .int .i64 i] w (ReadPost w (D.read i)) := by
  obtain ⟨ho, g1, cur1, pv, ps, rfl, hr⟩ := h
  have h3 := hr.c3
  cases hd : D.down
  · rw [hd] at h3
    by_cases hi : i < 0 ∨ (D.blocks.length : Int) ≤ i
    · have e : D.read i = (51, []) := by unfold Dsk.read; rw [hd, if_neg (by simp), if_pos hi]
      rw [e]
      exact read_bad b _ _ _ i w hr.c0 h3 hi
    · have e : D.read i = (0, D.see i.toNat) := by unfold Dsk.read; rw [hd, if_neg (by simp), if_neg hi]
      rw [e]
      obtain ⟨k, rfl⟩ : ∃ k : Nat, i = (k : Int) := ⟨i.toNat, by omega⟩
      exact read_good w hr ho hd k (by omega) hn
  · rw [hd] at h3
    have e : D.read i = (50, []) := by unfold Dsk.read; rw [hd, if_pos rfl]
    rw [e]
    exact read_down b i w h3

theorem Try.infoNote : (Try.prog.info? 132).map (fun i => (i.zero, i.size, i.bytes)) = some (some (.agg #[.int .i64 0, .slice none 0 0]), 2, 32) := by kernel_rfl

set_option maxRecDepth 100000 in
set_option maxHeartbeats 1000000 in
theorem write_down (b : Nat) (i : Int) (v : Value) (w : World) (h3 : w.cell? ⟨b, 3, none⟩ = some (.bool true)) :
    Calls Try.prog 43 #[.pointer (some ⟨b, 0, none⟩), .int .i64 i, v] w fun e w' => e = .returned (.int .i64 50) ∧ w = w' := by
  go_enter Try.func43, Try.ntmps43
  go_wp2
  go_ret
  exact ⟨rfl, rfl⟩

set_option maxRecDepth 100000 in
set_option maxHeartbeats 1000000 in
theorem write_bad (b n c m k : Nat) (A B : Option Addr) (i : Int) (w : World) (h0 : w.cell? ⟨b, 0, none⟩ = some (.slice A n c)) (h3 : w.cell? ⟨b, 3, none⟩ = some (.bool false))
    (hbad : i < 0 ∨ (n : Int) ≤ i ∨ m ≠ 256) :
    Calls Try.prog 43 #[.pointer (some ⟨b, 0, none⟩), .int .i64 i, .slice B m k] w fun e w' => e = .returned (.int .i64 51) ∧ w = w' := by
  by_cases hi : i < 0
  · have hi' : decide (i < 0) = true := by simpa using hi
    clear hbad
    go_enter Try.func43, Try.ntmps43
    go_wp2
    go_ret
    exact ⟨rfl, rfl⟩
  · by_cases hj : (n : Int) ≤ i
    · have hi' : decide (i < 0) = false := by simpa using hi
      have hj' : decide ((n : Int) ≤ i) = true := by simpa using hj
      clear hbad
      go_enter Try.func43, Try.ntmps43
      go_wp2
      go_ret
      exact ⟨rfl, rfl⟩
    · have hi' : decide (i < 0) = false := by simpa using hi
      have hj' : decide ((n : Int) ≤ i) = false := by simpa using hj
      have hk : ((m : Int) != 256) = true := by rw [bne_iff_ne]; omega
      clear hbad
      go_enter Try.func43, Try.ntmps43
      go_wp2
      go_ret
      exact ⟨rfl, rfl⟩

theorem note_keeps {w1 w2 : World} {o : Obj} (h : (w1.drew.alloc o).grownBy w2 (some w1.heap.size)) : Keeps (fun _ => False) w1 w2 :=
  (((Keeps.refl (fun _ => False) w1).drew).alloc o).grown h fun g e hg => by
    injection e with e
    omega
set_option maxHeartbeats 4000000 in
set_option maxRecDepth 100000 in
/-- The write is noted, unless the call is the one that fails. -/
theorem write_good {P : Nat → Prop} {b : Nat} {D : Dsk} {g1 : Nat} {cur1 : Array Value} {pv : Value} {ps : List (Nat × Value)} (w : World) (h : DiskRep P w b D g1 cur1 pv ps) (ho : DskOk D) (hl : D.life ≤ 4611686018427387904) (hd : D.down = false)
    (i : Nat) (hi : i < D.blocks.length) (hn : D.pending.length ≤ 1000000000) (gb cb : Nat) (l : List UInt8) (hb : l.length = 256) (hc : Cells w gb 0 (l.map bv)) (hgb : gb ≠ b) :
    Calls Try.prog 43 #[.pointer (some ⟨b, 0, none⟩), .int .i64 (i : Int), .slice (some ⟨gb, 0, none⟩) 256 cb] w fun e w' =>
      e = .returned (.int .i64 (D.write i l).1) ∧ After P w w' b (D.write i l).2 (b :: g1 :: pv.ownBlock.toList) := by
  have hf := ho.few
  have hs := ho.some_
  have h0 := h.c0
  have h3 := h.c3
  rw [hd] at h3
  have i0 : decide ((i : Int) < 0) = false := by simp
  have i1 : decide ((D.blocks.length : Int) ≤ (i : Int)) = false := by simpa using hi
  have HF := Lib.hid (fails_calls h ho hl hd)
  have HE : Hid (D.write i l = if D.fails.1 then (50, D.fails.2) else (0, { D.fails.2 with pending := D.fails.2.pending ++ [(i, l)] })) := by
    show D.write i l = _
    unfold Dsk.write
    rw [hd, if_neg (by simp), if_neg (by simp; omega)]
    simp
  have h256 : (((256 : Nat) : Int) != 256) = false := by decide
  have HC : Hid (Cells w gb 0 (l.map bv)) := hc
  clear hc
  obtain ⟨iw, hiw, hz0, hz1, hz2⟩ := info_parts Try.infoNote
  obtain ⟨iu, hiu, uz0, uz1, uz2⟩ := info_parts Try.infoU8
  cases hff : D.fails.1
  · rw [hff] at HF HE
    simp only [Bool.false_eq_true, if_false] at HE
    go_enter Try.func43, Try.ntmps43
    go_wp2_with (go_at_call 71; refine HF.out.mono ?_; rintro e w1 ⟨rfl, hr1, hk1⟩; clear HF)
    have h1 := hr1.c1
    have f1 := hr1.hb.frozen 1
    have hbl := hr1.hb.lt
    have HC1 : Hid (Cells w1 gb 0 (l.map bv)) := HC.out.keeps hk1 hgb
    have hpl : D.fails.2.pending = D.pending := by unfold Dsk.fails; split; rfl; split <;> rfl
    have HP := Lib.hid hpl
    have hbk : D.fails.2.blocks = D.blocks := by unfold Dsk.fails; split; rfl; split <;> rfl
    have HBk := Lib.hid hbk
    clear hbk
    clear hpl
    have hn1 : D.fails.2.pending.length ≤ 1000000000 := by rw [HP.out]; exact hn
    have HR := Lib.hid hr1
    clear hr1
    have HL := Lib.hid hb
    clear hb
    have hlm : (l.map bv).length = 256 * 1 := by rw [List.length_map, HL.out]
    have HLM := Lib.hid hlm
    clear hlm
    have HCA : Hid (∀ (j : Nat) (u : Value), (l.map bv)[j]? = some u → (w1.drew.alloc (.cells #[] 5)).cell? ((⟨gb, 0, none⟩ : Addr).add j) = some u) := cells_add (Cells.keeps HC1.out (F := fun _ => False) ((Keeps.refl _ w1).drew.alloc _) id)
    have HCB : Hid (∀ o, (w1.drew.alloc o).cell? ⟨b, 1, none⟩ = some pv) := fun o => (Blk.alloc HR.out.hb.drew o).cell 1
    have hcb := HCB.out
    have hbo : (Value.slice (some ⟨w1.heap.size, 0, none⟩) 0 0).ownBlock ≠ some b := by
      intro e
      have e : w1.heap.size = b := by simpa [Value.ownBlock] using e
      omega
    go_region_law
      (first
        | (refine step_append_lies _ (by rfl) _ _ _ (by rfl) w1.heap.size 5 iu _ 1 1 Try.underlying26 hiu uz0 uz1 uz2 rfl (by omega) (.slice (some ⟨w1.heap.size, 0, none⟩) 0 0) 0 [] (by rfl) (empty_own w1.drew)
            ⟨gb, 0, none⟩ 256 cb (l.map bv) (by rfl) HLM.out HCA.out (oneCell_bv _)
            (by omega) (by unfold maxLen; omega) (by omega) (by simp) (w1.heap.size + 1) (by simp) ?_; intro g2 cap w2 hown2 hgrow2 hat2 hlt2; have B2 := Blk.grown (Blk.alloc HR.out.hb.drew _) hgrow2 hbo; have hc2 : w2.cell? ⟨b, 1, none⟩ = some pv := B2.cell 1; have hc2a : ∀ o, (w2.alloc o).cell? ⟨b, 1, none⟩ = some pv := fun o => (B2.alloc o).cell 1; have hf2 := B2.frozen 1; have HKW : Hid (Keeps (fun _ => False) w1 w2) := note_keeps hgrow2)
        | (refine step_append_lies _ (by rfl) _ _ _ (by rfl) 0 132 iw _ 2 32 Try.underlying100 hiw hz0 hz1 hz2 rfl (by omega) pv D.fails.2.pending.length (penCells ps) (by rfl) (((ownsRow_keeps HR.out.own HKW.out (fun _ _ h => h)).alloc _).drew)
            ⟨w2.heap.size, 0, none⟩ 1 1 [.int .i64 (i : Int), .slice (some ⟨g2, 0, none⟩) (0 + 256) cap] (by rfl) (by rfl) (World.news_of_block (cs := #[.int .i64 (i : Int), .slice (some ⟨g2, 0, none⟩) (0 + 256) cap]) (t := 132) (fr := (0, 0)) (heap_alloc_new _ _)) (by simp [Value.oneCell'])
            (by omega) (by unfold maxLen; omega) (by omega) (by omega) (w2.heap.size + 1) (by simp) ?_; intro gg cap2 w3 hown3 hgrow hat hlt3; have B3 := (B2.alloc _).grown hgrow HR.out.ne2; have hc3 := (B3.at1 1 _ rfl).1; have hf3 := B3.frozen 1))
    all_goals
      have HB2 := Lib.hid ((own_bytes (l := l) (by simpa using hown2) (by rw [HL.out]; decide)).mono HR.out.fresh)
      have HW3 := Lib.hid hown3
      have HG3 := Lib.hid hgrow
      have HT3 := Lib.hid hat
      clear hown2 hgrow2 hat2 hown3 hgrow hat
      go_wp2
      go_ret
      rw [HE.out]
      exact ⟨rfl, write_after HR.out ho.fails hk1 HKW.out HB2.out HL.out (by rw [HBk.out]; exact hi) HW3.out ⟨HG3.out.os, HG3.out.tape, HG3.out.output, HG3.out.size, HG3.out.block⟩ HT3.out⟩
  · rw [hff] at HF HE
    simp only [if_true] at HE
    go_enter Try.func43, Try.ntmps43
    go_wp2_with (go_at_call 71; refine HF.out.mono ?_; rintro e w1 ⟨rfl, hr1, hk1⟩; clear HF)
    go_ret
    rw [HE.out]
    refine ⟨rfl, b :: g1 :: pv.ownBlock.toList, ⟨ho.fails, g1, cur1, pv, ps, rfl, hr1⟩, fun k hk => .inl hk, hk1.weaken ?_⟩
    intro k _ e
    simp [e]

theorem write_any {P Q : Nat → Prop} {b : Nat} {D : Dsk} {S : List Nat} (w : World) (h : DiskAt P w b D S) (hl : D.life ≤ 4611686018427387904) (hn : D.pending.length ≤ 1000000000) (i : Int) (v : Value) (l : List UInt8) (hv : BytesAt Q w v l) :
    Calls Try.prog 43 #[.pointer (some ⟨b, 0, none⟩), .int .i64 i, v] w fun e w' => e = .returned (.int .i64 (D.write i l).1) ∧ After P w w' b (D.write i l).2 S := by
  obtain ⟨ho, g1, cur1, pv, ps, rfl, hr⟩ := h
  have hD : DiskAt P w b D (b :: g1 :: pv.ownBlock.toList) := ⟨ho, g1, cur1, pv, ps, rfl, hr⟩
  have h3 := hr.c3
  cases hd : D.down
  · rw [hd] at h3
    obtain ⟨gb, cb, cur, rfl, _, _, hbk, hc⟩ := hv.cells
    by_cases hbad : i < 0 ∨ (D.blocks.length : Int) ≤ i ∨ l.length ≠ 256
    · have e : D.write i l = (51, D) := by unfold Dsk.write; rw [hd, if_neg (by simp), if_pos hbad]
      rw [e]
      refine (write_bad b _ _ l.length cb _ _ i w hr.c0 h3 hbad).mono ?_
      rintro e w' ⟨rfl, rfl⟩
      exact ⟨rfl, After.refl hD⟩
    · obtain ⟨k, rfl⟩ : ∃ k : Nat, i = (k : Int) := ⟨i.toNat, by omega⟩
      have hl2 : l.length = 256 := by omega
      rw [hl2]
      exact write_good w hr ho hl hd k (by omega) hn gb cb l hl2 hc (fun e => absurd (Blk.det (e ▸ hbk) hr.hb).2 (by decide))
  · rw [hd] at h3
    have e : D.write i l = (50, D) := by unfold Dsk.write; rw [hd, if_pos rfl]
    rw [e]
    refine (write_down b i v w h3).mono ?_
    rintro e w' ⟨rfl, rfl⟩
    exact ⟨rfl, After.refl hD⟩

end Go.Proofs.Ytbgiklkpinflaaa.Ref

namespace Go.Proofs.Ytbgiklkpinflaaa.Ref
open Go.RowKit Go.Shelf
open Go.Proofs.Ytbgiklkpinflaaa hiding DiskRep DiskAt After PenSlice Settling Crashing
attribute [local go_sem ↓] Go.wp_at_zero Go.wp_at_succ

set_option maxRecDepth 100000 in
set_option maxHeartbeats 4000000 in
theorem settles_all {P : Nat → Prop} {b : Nat} {D : Dsk} {g1 : Nat} {cur1 : Array Value} {pv : Value} {ps : List (Nat × Value)} (w : World) (h : DiskRep P w b D g1 cur1 pv ps) (ho : DskOk D) (hl : D.life ≤ 4611686018427387904) (hn : D.pending.length ≤ 1000000000)
    :
    Calls Try.prog 73 #[.pointer (some ⟨b, 0, none⟩), .slice none 0 0, .bool true] w fun e w' => e = .returned (.tuple #[]) ∧ ∃ cur, DiskRep P w' b { D with blocks := settleIf (fun _ => true) D.blocks D.pending D.pending.length, pending := [] } g1 cur (.slice none 0 0) [] ∧ Keeps (fun i => i = b ∨ i = g1) w w' := by
  have h0 := h.c0
  have hf := ho.few
  have hs := ho.some_
  have h1 := h.c1
  obtain ⟨A1, c1, rfl, hp1⟩ := PenSlice.of_own h.own h.pslen
  have hpl := h.pslen
  have hpsr : ps.length ≤ 1000000000 := by omega
  have HR := Lib.hid h
  have HO := Lib.hid ho
  have HP := Lib.hid hp1
  have hpl2 : (D.pending.length : Int) = (ps.length : Int) := by omega
  clear hp1 h ho
  go_enter Try.func73, Try.ntmps73
  go_wp2
  go_loopw [6, 7, 13] (fun _ _ i wr => ∃ k : Nat, k ≤ ps.length ∧ i = .int .i64 k ∧ Crashing P w b D ((fun _ => true)) g1 cur1 (.slice A1 ps.length c1) ps k wr) (fun _ _ i _ => ps.length - (intOf i).toNat)
  case atStart => exact ⟨0, Nat.zero_le _, rfl, cur1, rfl, HR.out, Keeps.refl _ _⟩
  case round =>
    obtain ⟨k, hk, rfl, hset⟩ := hrel
    by_cases hlt : k < ps.length
    · obtain ⟨gp, rfl, _, hpen⟩ := HP.out (by omega)
      obtain ⟨q1, q2⟩ := hset.pen_at hlt rfl
      obtain ⟨cur, hcs, hr, hkk⟩ := id hset
      obtain ⟨l, hpk, hB⟩ := hr.pen_at k hlt
      obtain ⟨gx, cx, _, hvx, _⟩ := id hB
      have hpk' : D.pending[k]? = some ((pen ps k).1, l) := hpk
      have hpi := HO.out.pen _ (List.mem_of_getElem? hpk')
      obtain ⟨hpi1, hll⟩ := hpi
      have hpi1 : (pen ps k).1 < D.blocks.length := hpi1
      have q3 := hr.c0
      simp only [settleIf_length] at q3
      have q4 := hr.hg.frozen (pen ps k).1
      obtain ⟨go, no, co, q5⟩ := hset.has hpi1
      have HX := Lib.hid hvx
      rw [hvx] at q2
      have q3a : ∀ o, (wr.alloc o).cell? ⟨b, 0, none⟩ = some (.slice (some ⟨g1, 0, none⟩) D.blocks.length cur.size) := fun o => Lib.cell?_alloc_some _ q3
      have q5a : ∀ o, (wr.alloc o).cell? ⟨g1, (pen ps k).1, none⟩ = some (.slice go no co) := fun o => Lib.cell?_alloc_some _ q5
      have q4a : ∀ o, (wr.alloc o).frozen? ⟨g1, (pen ps k).1, none⟩ = false := fun o => by rw [World.frozen?_alloc_old _ _ _ (Nat.ne_of_lt hr.hg.lt)]; exact q4
      have HS := Lib.hid hset
      have hlt2 : (pen ps k).1 < D.blocks.length := hpi1
      have tk : decide ((k : Int) < (ps.length : Int)) = true := by simp; omega
      have HKK := Lib.hid hkk
      clear hset hpk hpk' hvx hll hB hr hkk hcs hpen
      go_wp2
      go_region
      all_goals
        go_wp2
        go_roundw
        case rel =>
          have hst := HS.out.step rfl hlt HO.out (.cells #[.int .i64 ((pen ps k).1 : Int), (pen ps k).2] 132)
          rw [HX.out] at hst
          exact ⟨k + 1, by omega, by go_num, hst⟩
        case measure => simp [intOf]; omega
    · obtain rfl : k = ps.length := by omega
      have tk : decide ((ps.length : Int) < ps.length) = false := by simp
      obtain ⟨cur, hcs, hr, hkk⟩ := hset
      have q1 := hr.c1
      have f1 := hr.hb.frozen 1
      have HD2 := Lib.hid hr.drop
      have HKK := Lib.hid hkk
      clear hr hkk hcs
      go_wp2
      go_end0
      refine ⟨rfl, ⟨cur, ?_⟩, (HKK.out.weaken (F := fun i => i = b ∨ i = g1) (fun _ _ h => .inr h)).trans (Keeps.set1 _ b 1 _) (fun _ _ h => .inl h)⟩
      have := HD2.out
      rw [← hpl]
      exact this

set_option maxRecDepth 100000 in
set_option maxHeartbeats 4000000 in
theorem settles_some {P : Nat → Prop} {b : Nat} {D : Dsk} {g1 : Nat} {cur1 : Array Value} {pv : Value} {ps : List (Nat × Value)} (w : World) (h : DiskRep P w b D g1 cur1 pv ps) (ho : DskOk D) (hl : D.life ≤ 4611686018427387904) (hn : D.pending.length ≤ 1000000000)
    (v : Value) (ks : List Bool) (hv : KeepAt w [b, g1] v ks) :
    Calls Try.prog 73 #[.pointer (some ⟨b, 0, none⟩), v, .bool false] w fun e w' => e = .returned (.tuple #[]) ∧ ∃ cur, DiskRep P w' b { D with blocks := settleIf (keepOf ks) D.blocks D.pending D.pending.length, pending := [] } g1 cur (.slice none 0 0) [] ∧ Keeps (fun i => i = b ∨ i = g1) w w' := by
  have h0 := h.c0
  have hf := ho.few
  have hs := ho.some_
  have h1 := h.c1
  obtain ⟨A1, c1, rfl, hp1⟩ := PenSlice.of_own h.own h.pslen
  obtain ⟨AK, cK, rfl, hkl, hks⟩ := hv
  have hpl := h.pslen
  have hpsr : ps.length ≤ 1000000000 := by omega
  have HR := Lib.hid h
  have HO := Lib.hid ho
  have HK := Lib.hid hks
  have HP := Lib.hid hp1
  have hpl2 : (D.pending.length : Int) = (ps.length : Int) := by omega
  clear hp1 hks h ho
  go_enter Try.func73, Try.ntmps73
  go_wp2
  go_loopw [6, 7, 13] (fun _ _ i wr => ∃ k : Nat, k ≤ ps.length ∧ i = .int .i64 k ∧ Crashing P w b D (keepOf ks) g1 cur1 (.slice A1 ps.length c1) ps k wr) (fun _ _ i _ => ps.length - (intOf i).toNat)
  case atStart => exact ⟨0, Nat.zero_le _, rfl, cur1, rfl, HR.out, Keeps.refl _ _⟩
  case round =>
    obtain ⟨k, hk, rfl, hset⟩ := hrel
    by_cases hlt : k < ps.length
    · obtain ⟨gp, rfl, _, hpen⟩ := HP.out (by omega)
      obtain ⟨q1, q2⟩ := hset.pen_at hlt rfl
      obtain ⟨cur, hcs, hr, hkk⟩ := id hset
      obtain ⟨l, hpk, hB⟩ := hr.pen_at k hlt
      obtain ⟨gx, cx, _, hvx, _⟩ := id hB
      have hpk' : D.pending[k]? = some ((pen ps k).1, l) := hpk
      have hpi := HO.out.pen _ (List.mem_of_getElem? hpk')
      obtain ⟨hpi1, hll⟩ := hpi
      have hpi1 : (pen ps k).1 < D.blocks.length := hpi1
      have q3 := hr.c0
      simp only [settleIf_length] at q3
      have q4 := hr.hg.frozen (pen ps k).1
      obtain ⟨go, no, co, q5⟩ := hset.has hpi1
      have HX := Lib.hid hvx
      rw [hvx] at q2
      have q3a : ∀ o, (wr.alloc o).cell? ⟨b, 0, none⟩ = some (.slice (some ⟨g1, 0, none⟩) D.blocks.length cur.size) := fun o => Lib.cell?_alloc_some _ q3
      have q5a : ∀ o, (wr.alloc o).cell? ⟨g1, (pen ps k).1, none⟩ = some (.slice go no co) := fun o => Lib.cell?_alloc_some _ q5
      have q4a : ∀ o, (wr.alloc o).frozen? ⟨g1, (pen ps k).1, none⟩ = false := fun o => by rw [World.frozen?_alloc_old _ _ _ (Nat.ne_of_lt hr.hg.lt)]; exact q4
      have HS := Lib.hid hset
      have hlt2 : (pen ps k).1 < D.blocks.length := hpi1
      have tk : decide ((k : Int) < (ps.length : Int)) = true := by simp; omega
      have HKK := Lib.hid hkk
      clear hset hpk hpk' hvx hll hB hr hkk hcs hpen
      cases hkv : ks[k]? with
      | none =>
        have hfk : keepOf ks k = false := by unfold keepOf; rw [hkv]; rfl
        have hge : ks.length ≤ k := by rcases Nat.lt_or_ge k ks.length with h | h; rw [List.getElem?_eq_getElem h] at hkv; cases hkv; exact h
        have tg : decide ((k : Int) < (ks.length : Int)) = false := by simp; omega
        clear hkv
        go_wp2
        go_roundw
        case rel => exact ⟨k + 1, by omega, by go_num, HS.out.skip hfk _⟩
        case measure => simp [intOf]; omega
      | some x =>
        have hfk : keepOf ks k = x := by unfold keepOf; rw [hkv]; rfl
        have hkl2 : k < ks.length := (List.getElem?_eq_some_iff.1 hkv).1
        have tg : decide ((k : Int) < (ks.length : Int)) = true := by simp; omega
        obtain ⟨a, rfl, ha, hc⟩ := HK.out k x hkv
        have hc2 : ∀ o, (wr.alloc o).cell? (a.add k) = some (.bool x) := fun o => Lib.cell?_alloc_some _ (HKK.out.cell hc (by rw [add_block]; intro e; exact ha (by simp [e])))
        clear hkv hc
        have HA := Lib.hid ha
        clear ha
        cases x
        · go_wp2
          go_roundw
          case rel => exact ⟨k + 1, by omega, by go_num, HS.out.skip hfk _⟩
          case measure => simp [intOf]; omega
        · go_wp2
          go_region
          all_goals
            go_wp2
            go_roundw
            case rel =>
              have hst := HS.out.step hfk hlt HO.out (.cells #[.int .i64 ((pen ps k).1 : Int), (pen ps k).2] 132)
              rw [HX.out] at hst
              exact ⟨k + 1, by omega, by go_num, hst⟩
            case measure => simp [intOf]; omega
    · obtain rfl : k = ps.length := by omega
      have tk : decide ((ps.length : Int) < ps.length) = false := by simp
      obtain ⟨cur, hcs, hr, hkk⟩ := hset
      have q1 := hr.c1
      have f1 := hr.hb.frozen 1
      have HD2 := Lib.hid hr.drop
      have HKK := Lib.hid hkk
      clear hr hkk hcs
      go_wp2
      go_end0
      refine ⟨rfl, ⟨cur, ?_⟩, (HKK.out.weaken (F := fun i => i = b ∨ i = g1) (fun _ _ h => .inr h)).trans (Keeps.set1 _ b 1 _) (fun _ _ h => .inl h)⟩
      have := HD2.out
      rw [← hpl]
      exact this

end Go.Proofs.Ytbgiklkpinflaaa.Ref

namespace Go.Proofs.Ytbgiklkpinflaaa.Ref
open Go.RowKit Go.Shelf
open Go.Proofs.Ytbgiklkpinflaaa hiding DiskRep DiskAt After PenSlice Settling Crashing
attribute [local go_sem ↓] Go.wp_at_zero Go.wp_at_succ

theorem settleIf_true (B : List (List UInt8)) (ps : List (Nat × List UInt8)) : ∀ k, k ≤ ps.length → settleIf (fun _ => true) B ps k = settle B (ps.take k)
  | 0, _ => rfl
  | k + 1, h => by
    have hk : ps[k]? = some ps[k] := List.getElem?_eq_getElem (by omega)
    rw [settle_take B ps hk, ← settleIf_true B ps k (by omega)]
    show (if true then (settleIf (fun _ => true) B ps k).set ((ps[k]?.getD (0, [])).1) ((ps[k]?.getD (0, [])).2) else _) = _
    rw [if_pos rfl, hk]
    rfl
theorem sync_ok {D : Dsk} (ho : DskOk D) : DskOk { D with blocks := settle D.blocks D.pending, pending := [] } :=
  ⟨Go.Proofs.Ytbgiklkpinflaaa.settle_all ho.blk fun p hp => (ho.pen p hp).2, fun p hp => by simp at hp, by simpa [settle_length] using ho.some_, by simpa [settle_length] using ho.few, ho.armedLe⟩
set_option maxRecDepth 100000 in
set_option maxHeartbeats 2000000 in
theorem sync_any {P : Nat → Prop} {b : Nat} {D : Dsk} {S : List Nat} (w : World) (h : DiskAt P w b D S) (hl : D.life ≤ 4611686018427387904) (hn : D.pending.length ≤ 1000000000) :
    Calls Try.prog 47 #[.pointer (some ⟨b, 0, none⟩)] w fun e w' => e = .returned (.int .i64 D.sync.1) ∧ After P w w' b D.sync.2 S := by
  obtain ⟨ho, g1, cur1, pv, ps, rfl, hr⟩ := h
  have hD : DiskAt P w b D (b :: g1 :: pv.ownBlock.toList) := ⟨ho, g1, cur1, pv, ps, rfl, hr⟩
  have h3 := hr.c3
  cases hd : D.down
  · rw [hd] at h3
    have HF := Lib.hid (fails_calls hr ho hl hd)
    cases hff : D.fails.1
    · have HE : Hid (D.sync = (0, { D.fails.2 with blocks := settle D.blocks D.pending, pending := [] })) := by
        show D.sync = _
        unfold Dsk.sync
        rw [hd, hff]
        rfl
      rw [hff] at HF
      have HO := Lib.hid ho
      have hl2 : D.fails.2.life ≤ 4611686018427387904 := by
        unfold Dsk.fails at hff ⊢
        split
        · exact hl
        · split
          · rename_i h1 h2
            rw [if_neg h1, if_pos h2] at hff
            cases hff
          · exact hl
      have hn2 : D.fails.2.pending.length ≤ 1000000000 := by rw [D.fails_pending]; exact hn
      clear hr hD
      go_enter Try.func47, Try.ntmps47
      go_wp2_with (go_at_call 71; refine HF.out.mono ?_; rintro e w1 ⟨rfl, hr1, hk1⟩; clear HF; have HR1 := Lib.hid hr1; have HK1 := Lib.hid hk1; clear hr1 hk1)
      refine (settles_all _ HR1.out HO.out.fails hl2 hn2).mono ?_
      rintro e w2 ⟨rfl, cur, hr2, hk2⟩
      have HR2 := Lib.hid hr2
      have HK2 := Lib.hid hk2
      clear hr2 hk2
      go_wp2
      go_ret
      rw [HE.out]
      have hr2 := HR2.out
      rw [settleIf_true _ _ _ (Nat.le_refl _), List.take_length, D.fails_blocks, D.fails_pending] at hr2
      have hok := sync_ok HO.out.fails
      rw [D.fails_blocks, D.fails_pending] at hok
      refine ⟨rfl, [b, g1], ⟨hok, g1, cur, .slice none 0 0, [], rfl, hr2⟩, fun i hi => .inl ?_, ((HK1.out.weaken (F := (· ∈ b :: g1 :: pv.ownBlock.toList)) fun i _ e => by simp [e]).trans HK2.out fun i _ e => ?_)⟩
      · simp only [List.mem_cons, List.not_mem_nil, or_false] at hi
        rcases hi with h | h <;> simp [h]
      · rcases e with h | h <;> simp [h]
    · have HE : Hid (D.sync = (50, D.fails.2)) := by
        show D.sync = _
        unfold Dsk.sync
        rw [hd, hff]
        rfl
      rw [hff] at HF
      have HO := Lib.hid ho
      clear hr hD
      go_enter Try.func47, Try.ntmps47
      go_wp2_with (go_at_call 71; refine HF.out.mono ?_; rintro e w1 ⟨rfl, hr1, hk1⟩; clear HF; have HR1 := Lib.hid hr1; have HK1 := Lib.hid hk1; clear hr1 hk1)
      go_ret
      rw [HE.out]
      refine ⟨rfl, b :: g1 :: pv.ownBlock.toList, ⟨HO.out.fails, g1, cur1, pv, ps, rfl, HR1.out⟩, fun k hk => .inl hk, HK1.out.weaken ?_⟩
      intro k _ e
      simp [e]
  · rw [hd] at h3
    have HE : Hid (D.sync = (50, D)) := by
      show D.sync = _
      unfold Dsk.sync
      rw [if_pos hd]
    have HD := Lib.hid hD
    clear hr hD
    go_enter Try.func47, Try.ntmps47
    go_wp2
    go_ret
    rw [HE.out]
    exact ⟨rfl, After.refl HD.out⟩

set_option maxRecDepth 100000 in
set_option maxHeartbeats 2000000 in
theorem crash_any {P : Nat → Prop} {b : Nat} {D : Dsk} {S : List Nat} (w : World) (h : DiskAt P w b D S) (hl : D.life ≤ 4611686018427387904) (hn : D.pending.length ≤ 1000000000) (v : Value) (ks : List Bool) (hv : KeepAt w S v ks) :
    Calls Try.prog 51 #[.pointer (some ⟨b, 0, none⟩), v] w fun e w' => e = .returned (.tuple #[]) ∧ After P w w' b (D.crash (keepOf ks)) S := by
  obtain ⟨ho, g1, cur1, pv, ps, rfl, hr⟩ := h
  have HS := Lib.hid (settles_some w hr ho hl hn v ks (hv.mono fun k hk => by
    simp only [List.mem_cons, List.not_mem_nil, or_false] at hk
    rcases hk with h | h
    · simp [h]
    · simp [h]))
  have HO := Lib.hid ho
  clear hr hv ho
  go_enter Try.func51, Try.ntmps51
  go_wp2_with (go_at_call 73; refine HS.out.mono ?_; rintro e w2 ⟨rfl, cur, hr2, hk2⟩; have HR2 := Lib.hid hr2; have HK2 := Lib.hid hk2; have c2 := hr2.c2; have c3 := hr2.c3; have c4 := hr2.c4; have f2 := hr2.hb.frozen 2; have f3 := hr2.hb.frozen 3; have f4 := hr2.hb.frozen 4; clear hr2 hk2)
  go_end0
  have hr := HR2.out
  have k4 : Keeps (· = b) w2 (((w2.setCell ⟨b, 3, none⟩ (.bool false)).setCell ⟨b, 2, none⟩ (.int .i64 0)).setCell ⟨b, 4, none⟩ (.int .i64 ((D.life : Int) + 1))) :=
    ((Keeps.set1 _ b 3 _).trans (Keeps.set1 _ b 2 _) (fun _ _ h => h)).trans (Keeps.set1 _ b 4 _) (fun _ _ h => h)
  have hU : ∀ g cs, g = b → P g → Blk w2 g 5 cs → False := fun g cs hg _ hb => hr.noBytes g cs (by simp [hg]) hb
  refine ⟨rfl, [b, g1], ⟨⟨?_, fun p hp => by simp [Dsk.crash] at hp, by simpa [Dsk.crash, settleIf_length] using HO.out.some_, by simpa [Dsk.crash, settleIf_length] using HO.out.few, by simp [Dsk.crash]⟩, g1, cur, .slice none 0 0, [], rfl, ?_⟩, fun i hi => .inl ?_, (HK2.out.weaken (F := (· ∈ b :: g1 :: pv.ownBlock.toList)) fun i _ e => by rcases e with h | h <;> simp [h]).trans k4 fun i _ e => by simp [e]⟩
  · exact settleIf_all _ HO.out.blk (fun p hp => (HO.out.pen p hp).2) _ (Nat.le_refl _)
  · refine ⟨?_, hr.hg.keeps k4 (Ne.symm hr.ne1), hr.le, fun i l hi => ?_, ⟨rfl, .inl ⟨rfl, rfl⟩⟩, rfl, fun i p hp => by simp [Dsk.crash] at hp, fun i hi => hr.fresh i (Nat.le_trans k4.size hi)⟩
    · have := ((hr.hb.set_ 3 (.bool false)).set_ 2 (.int .i64 0)).set_ 4 (.int .i64 ((D.life : Int) + 1))
      simpa [Dsk.crash, settleIf_length] using this
    · obtain ⟨v, hv, hB⟩ := hr.bl i l hi
      exact ⟨v, hv, hB.keeps k4 hU⟩
  · simp only [List.mem_cons, List.not_mem_nil, or_false] at hi
    rcases hi with h | h <;> simp [h]

set_option maxRecDepth 100000 in
set_option maxHeartbeats 1000000 in
theorem arm_any {P : Nat → Prop} {b : Nat} {D : Dsk} {S : List Nat} (w : World) (h : DiskAt P w b D S) (n : Int) (hn : n ≤ 9223372036854775807) :
    Calls Try.prog 49 #[.pointer (some ⟨b, 0, none⟩), .int .i64 n] w fun e w' => e = .returned (.tuple #[]) ∧ After P w w' b (D.arm n) S := by
  have hA := fun x hx => arm_rep h hn (x := x) hx
  obtain ⟨ho, g1, cur1, pv, ps, rfl, hr⟩ := h
  have h2 := hr.c2
  have f2 := hr.hb.frozen 2
  have HA := Lib.hid hA
  clear hr ho hA
  go_enter Try.func49, Try.ntmps49
  go_wp2
  go_end0
  refine ⟨rfl, HA.out _ ?_⟩
  omega

end Go.Proofs.Ytbgiklkpinflaaa.Ref
