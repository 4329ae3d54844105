/- The store's Copy: plain facts of its first loop. The store's Copy: the walk. -/
import Derived.Test.YtbgiklkpinflaaaSpoilB

namespace Go.Proofs.Ytbgiklkpinflaaa
open Go.RowKit Go.Shelf

/-- k of the blocks L are copied; the new disk lies in block c, with the other cells p1 .. p4. -/
def Copying (w : World) (B c : Nat) (p1 p2 p3 p4 : Value) (L : List (List UInt8)) (k : Nat) (wr : World) : Prop :=
  ∃ sv xs, Blk wr c 99 #[sv, p1, p2, p3, p4] ∧ wr.ownsRow B 26 1 sv k xs ∧ (∀ (j : Nat) (x : Value), xs[j]? = some x → ∃ l, L[j]? = some l ∧ BytesAt (w.heap.size ≤ ·) wr x l) ∧ Below w.heap.size w wr

theorem copying_step {w wr w2 w3 : World} {B c k gg cap2 : Nat} {p1 p2 p3 p4 sv v : Value} {xs : List Value} {L : List (List UInt8)} {l : List UInt8} (hB : w.heap.size ≤ B) (hc : w.heap.size ≤ c) (hb : Blk wr c 99 #[sv, p1, p2, p3, p4]) (hown : wr.ownsRow B 26 1 sv k xs)
    (hxs : ∀ (j : Nat) (x : Value), xs[j]? = some x → ∃ l, L[j]? = some l ∧ BytesAt (w.heap.size ≤ ·) wr x l) (hbel : Below w.heap.size w wr) (k2 : Keeps (fun _ => False) wr w2) (hl : L[k]? = some l) (hv : BytesAt (w.heap.size ≤ ·) w2 v l) {o : Obj}
    (hown3 : w3.ownsRow B 26 1 (.slice (some ⟨gg, 0, none⟩) (k + 1) cap2) (k + 1) (xs ++ [v])) (hgrow : (w2.alloc o).grownBy w3 sv.ownBlock) :
    Copying w B c p1 p2 p3 p4 L (k + 1) (w3.setCell ⟨c, 0, none⟩ (.slice (some ⟨gg, 0, none⟩) (k + 1) cap2)) := by
  have hne : sv.ownBlock ≠ some c := own_blk_ne hown hb (by decide)
  have B2 : Blk w2 c _ _ := hb.keeps k2 id
  have B3 : Blk w3 c _ _ := Blk.grown (B2.alloc o) hgrow hne
  have own2 : w2.ownsRow B 26 1 sv k xs := ownsRow_keeps hown k2 fun _ _ => id
  have hne2 : gg ≠ c := fun e => own_blk_ne hown3 B3 (by decide) (by simp [Value.ownBlock, e])
  have kz : Keeps (fun k => sv.ownBlock = some k) w2 w3 := ((Keeps.refl _ w2).alloc o).grown hgrow (fun g h _ => h)
  have hu : ∀ {u : World} {g : Nat} {cs : Array Value}, u.ownsRow B 26 1 sv k xs → sv.ownBlock = some g → Blk u g 5 cs → False := fun h e hk => own_blk_ne h hk (by decide) e
  have k4 := Keeps.set1 w3 c 0 (.slice (some ⟨gg, 0, none⟩) (k + 1) cap2)
  have hxl : xs.length = k := by simpa using hown.1
  refine ⟨_, _, B3.set_ 0 _, ownsRow_keeps hown3 k4 (fun g hg e => by simp [Value.ownBlock] at hg; omega), ?_, ?_⟩
  · intro j x hx
    have hy : ∃ l, L[j]? = some l ∧ BytesAt (w.heap.size ≤ ·) w3 x l := by
      rw [List.getElem?_append] at hx
      split at hx
      · obtain ⟨l', e, hb'⟩ := hxs j x hx
        exact ⟨l', e, (hb'.keeps k2 (fun _ _ h => h.elim)).keeps kz (fun g cs e _ hk => hu own2 e hk)⟩
      · rename_i hge
        rcases Nat.eq_zero_or_pos (j - xs.length) with h0 | h0
        · rw [h0] at hx
          simp only [List.getElem?_cons_zero, Option.some.injEq] at hx
          subst hx
          have : j = k := by omega
          subst this
          exact ⟨l, hl, hv.keeps kz (fun g cs e _ hk => hu own2 e hk)⟩
        · rw [List.getElem?_eq_none (by simp; omega)] at hx
          cases hx
    obtain ⟨l', e, hy⟩ := hy
    exact ⟨l', e, hy.keeps k4 (fun g cs e _ hk => by subst e; exact Blk.ne_ hk B3 (by decide) rfl)⟩
  · have hks : wr.heap.size ≤ w2.heap.size := k2.size
    have b2 : Below w.heap.size w w2 := ⟨k2.os.trans hbel.os, k2.tape.trans hbel.tape, k2.output.trans hbel.output, Nat.le_trans hbel.size k2.size, fun q hq => (k2.block q (Nat.lt_of_lt_of_le hq hbel.size) id).trans (hbel.block q hq)⟩
    exact ((b2.alloc b2.size o).grown hgrow (by have := b2.size; simp; omega) (fun g e => by
      rcases hown.2 with ⟨hv, _⟩ | ⟨g', cap, cur, hv, hbb, _⟩
      · rw [hv] at e
        simp [Value.ownBlock] at e
      · rw [hv] at e
        simp [Value.ownBlock] at e
        omega)).setCell (p := ⟨c, 0, none⟩) hc _

theorem copying_end {P : Nat → Prop} {w wr : World} {B c : Nat} {D : Dsk} (hP : ∀ k, w.heap.size ≤ k → P k) (hB : w.heap.size ≤ B) (hc : w.heap.size ≤ c) (ho : DskOk D) (h : Copying w B c (.slice none 0 0) (.int .i64 (D.armed : Int)) (.bool D.down) (.int .i64 (D.life : Int)) D.blocks D.blocks.length wr) :
    ∃ S, DiskAt P wr c { D with pending := [] } S ∧ ∀ k ∈ S, w.heap.size ≤ k := by
  obtain ⟨sv, xs, hb, hown, hxs, hbel⟩ := h
  have hs := ho.some_
  have hl := hown.1
  rcases hown.2 with ⟨_, h0'⟩ | ⟨g, cap, cur, rfl, hbb, hg, hnc, hcm, hcs, ht⟩
  · omega
  · have hcs' : cur.size = cap := by simpa using hcs
    subst hcs'
    refine ⟨[c, g], ⟨⟨ho.blk, fun p hp => by simp at hp, ho.some_, ho.few, ho.armedLe⟩, g, cur, .slice none 0 0, [], rfl, ?_⟩, ?_⟩
    · refine ⟨hb, hg, hnc, ?_, ⟨rfl, .inl ⟨rfl, rfl⟩⟩, rfl, fun j p hj => by simp at hj, fun k hk => hP k (Nat.le_trans hbel.size hk)⟩
      intro i l hi
      have hin : i < D.blocks.length := (List.getElem?_eq_some_iff.1 hi).1
      have hxi : i < xs.length := by omega
      have e1 : cur[i]? = some xs[i] := by
        have : (cur.toList.take (D.blocks.length * 1))[i]? = some xs[i] := by rw [ht]; exact List.getElem?_eq_getElem hxi
        rw [List.getElem?_take, if_pos (by omega)] at this
        simpa using this
      obtain ⟨l', e2, hy⟩ := hxs i _ (List.getElem?_eq_getElem hxi)
      have : l' = l := by
        have := e2.symm.trans hi
        injection this
      subst this
      exact ⟨_, e1, hy.mono hP⟩
    · intro k hk
      simp only [List.mem_cons, List.not_mem_nil, or_false] at hk
      rcases hk with rfl | rfl <;> omega

end Go.Proofs.Ytbgiklkpinflaaa

namespace Go.Proofs.Ytbgiklkpinflaaa
open Go.RowKit Go.Shelf
attribute [local go_sem ↓] Go.wp_at_zero Go.wp_at_succ

/-- k of the pending writes are copied too. -/
def Noting (P : Nat → Prop) (w : World) (c : Nat) (D : Dsk) (k : Nat) (wr : World) : Prop :=
  ∃ S, DiskAt P wr c { D with pending := D.pending.take k } S ∧ (∀ q ∈ S, w.heap.size ≤ q) ∧ Below w.heap.size w wr
theorem Noting.step {P : Nat → Prop} {w wr w2 w3 : World} {c k g1 : Nat} {D : Dsk} {cur1 : Array Value} {pv : Value} {ps : List (Nat × Value)} {v : Value} {p : Nat × List UInt8} {gg cap2 : Nat} {o : Obj} (hb : Below w.heap.size w wr) (hS : ∀ q ∈ c :: g1 :: pv.ownBlock.toList, w.heap.size ≤ q)
    (hr : DiskRep P wr c { D with pending := D.pending.take k } g1 cur1 pv ps) (ho : DskOk { D with pending := D.pending.take k }) (k2 : Keeps (fun _ => False) wr w2) (hB : BytesAt (wr.heap.size ≤ ·) w2 v p.2) (hl : p.2.length = 256) (hi : p.1 < D.blocks.length) (hp : D.pending[k]? = some p)
    (hown3 : w3.ownsRow 0 109 2 (.slice (some ⟨gg, 0, none⟩) ((D.pending.take k).length + 1) cap2) ((D.pending.take k).length + 1) (penCells ps ++ [.int .i64 (p.1 : Int), v])) (hgrow : (w2.alloc o).grownBy w3 pv.ownBlock) (hat : pv.ownBlock = some gg ∨ gg = w2.heap.size + 1) :
    Noting P w c D (k + 1) (w3.setCell ⟨c, 1, none⟩ (.slice (some ⟨gg, 0, none⟩) ((D.pending.take k).length + 1) cap2)) := by
  have hA := write_after (E := { D with pending := D.pending.take k }) hr ho (Keeps.refl (· = c) wr) k2 (hB.mono hr.fresh) hl hi hown3 hgrow hat
  obtain ⟨S', h1, h2, h3⟩ := hA
  have e : D.pending.take (k + 1) = D.pending.take k ++ [p] := by
    obtain ⟨hk, hpk⟩ := List.getElem?_eq_some_iff.1 hp
    rw [List.take_succ_eq_append_getElem hk, hpk]
  refine ⟨S', ?_, fun q hq => ?_, below_keeps hb h3 hb.size fun q hq => hS q hq⟩
  · rw [e]
    exact h1
  · rcases h2 q hq with h | h
    · exact hS q h
    · exact Nat.le_trans hb.size h

set_option maxRecDepth 100000 in
set_option maxHeartbeats 4000000 in
theorem copy_rep {P : Nat → Prop} {b : Nat} {D : Dsk} {g1 : Nat} {cur1 : Array Value} {pv : Value} {ps : List (Nat × Value)} (w : World) (h : DiskRep P w b D g1 cur1 pv ps) (ho : DskOk D) (hn : D.pending.length ≤ 1000000) :
    Calls Try.prog 23 #[.pointer (some ⟨b, 0, none⟩)] w fun e w' => e = .returned (.pointer (some ⟨w.heap.size, 0, none⟩)) ∧ (∃ S, DiskAt P w' w.heap.size D S ∧ ∀ q ∈ S, w.heap.size ≤ q) ∧ Below w.heap.size w w' := by
  have h0 := h.c0
  have h1 := h.c1
  have h2 := h.c2
  have h3 := h.c3
  have h4 := h.c4
  have hs := ho.some_
  have hf := ho.few
  obtain ⟨A1, c1, rfl, hp1⟩ := PenSlice.of_own h.own h.pslen
  have hpl := h.pslen
  have hpsr : ps.length ≤ 1000000 := by omega
  obtain ⟨iw, hiw, hz0, hz1, hz2⟩ := info_parts Try.infoBytes
  obtain ⟨in_, hin, nz0, nz1, nz2⟩ := info_parts Try.infoWrite
  have h0a : ∀ o, (w.alloc o).cell? ⟨b, 0, none⟩ = some (.slice (some ⟨g1, 0, none⟩) D.blocks.length cur1.size) := fun o => Lib.cell?_alloc_some _ h0
  have HR := Lib.hid h
  have HO := Lib.hid ho
  have HP := Lib.hid hp1
  have HPL := Lib.hid hpl
  clear hp1 h ho hpl
  go_enter Try.func23, Try.ntmps23
  go_wp2_with (go_at_call 57; refine (none_not b _ _ _ _ h0 hs hf).mono ?_; rintro e wx ⟨rfl, rfl⟩)
  go_loopw [5, 20] (fun _ i wr => ∃ k : Nat, k ≤ D.blocks.length ∧ i = .int .i64 k ∧ Copying w (w.heap.size + 1) w.heap.size (.slice none 0 0) (.int .i64 (D.armed : Int)) (.bool D.down) (.int .i64 (D.life : Int)) D.blocks k wr) (fun _ i _ => D.blocks.length - (intOf i).toNat)
  case atStart => exact ⟨0, Nat.zero_le _, rfl, .slice none 0 0, [], Blk.new _ _ _, ⟨rfl, .inl ⟨rfl, rfl⟩⟩, fun j x hj => by simp at hj, (Below.refl _ _).alloc (Nat.le_refl _) _⟩
  case round =>
    obtain ⟨k, hk, rfl, hM⟩ := hrel
    by_cases hlt : k < D.blocks.length
    · have tk : decide ((k : Int) < (D.blocks.length : Int)) = true := by simp; omega
      obtain ⟨sv, xs, hb, hown, hxs, hbel⟩ := hM
      obtain ⟨l, hl⟩ : ∃ l, D.blocks[k]? = some l := ⟨_, List.getElem?_eq_getElem hlt⟩
      obtain ⟨v, hv, hB⟩ := HR.out.bl k l hl
      have hll := HO.out.blk l (List.mem_of_getElem? hl)
      obtain ⟨gx, cx, curx, rfl, _, _, hgx, hcx⟩ := hB.cells
      have HCX : Hid (Cells wr gx 0 (l.map bv)) := Cells.keeps hcx (Keeps.of_below (F := fun _ => False) hbel) id
      have q1 : wr.cell? ⟨g1, k, none⟩ = some (.slice (some ⟨gx, 0, none⟩) l.length cx) := ((HR.out.hg.below hbel HR.out.hg.lt).cell k).trans hv
      have c0 := hb.cell 0
      have f0 := hb.frozen 0
      have hbl := hb.lt
      have hne : sv.ownBlock ≠ some w.heap.size := own_blk_ne hown hb (by decide)
      have HB := Lib.hid hb
      have HOWN := Lib.hid hown
      have HBEL := Lib.hid hbel
      have HXS := Lib.hid hxs
      have HL := Lib.hid hl
      have HLL := Lib.hid hll
      have hl2 : l.length ≤ 70368744177664 := by omega
      clear hb hown hbel hxs hl hll hv hB hcx hgx
      go_wp2
      go_region_law
        (first
          | (go_simp; go_at_call 31; refine (clone_bytes gx 0 l.length cx l _ rfl hl2 ?_).mono ?_; exact HCX.out; rintro e w2 ⟨g', cap, rfl, hB2, hbel2⟩; have HB2 := Lib.hid hB2; have HK2 : Hid (Keeps (fun _ => False) wr w2) := Keeps.of_belowD hbel2; have B2 := HB.out.keeps HK2.out id; have c02 : w2.cell? ⟨w.heap.size, 0, none⟩ = some sv := B2.cell 0; have c02a : ∀ o, (w2.alloc o).cell? ⟨w.heap.size, 0, none⟩ = some sv := fun o => (B2.alloc o).cell 0; have f02 := B2.frozen 0; clear hB2 hbel2)
          | (refine step_append_lies _ (by rfl) _ _ _ (by rfl) (w.heap.size + 1) 26 iw _ 1 24 Try.underlying96 hiw hz0 hz1 hz2 rfl (by omega) sv k xs (by rfl) (((ownsRow_keeps HOWN.out HK2.out (fun _ _ h => h)).alloc _).drew)
              ⟨w2.heap.size, 0, none⟩ 1 1 [.slice (some ⟨g', 0, none⟩) l.length cap] (by rfl) (by rfl) (World.news_of_block (cs := #[.slice (some ⟨g', 0, none⟩) l.length cap]) (t := 26) (fr := (0, 0)) (heap_alloc_new _ _)) (by simp [Value.oneCell'])
              (by omega) (by unfold maxLen; omega) (by omega) (by have := HK2.out.size; simp; omega) (w2.heap.size + 1) (by simp) ?_; intro gg cap2 w3 hown3 hgrow hat hlt3; have B3 := (B2.alloc _).grown hgrow hne; have c03 := (B3.at1 0 _ rfl).1; have f03 := B3.frozen 0; have HW3 := Lib.hid hown3; have HG3 := Lib.hid hgrow; clear hown3 hgrow hat))
      all_goals
        go_wp2
        go_roundw
        case rel => exact ⟨k + 1, by omega, by go_num, copying_step (by omega) (Nat.le_refl _) HB.out HOWN.out HXS.out HBEL.out HK2.out HL.out (HB2.out.mono fun q hq => Nat.le_trans HBEL.out.size hq) HW3.out ⟨HG3.out.os, HG3.out.tape, HG3.out.output, HG3.out.size, HG3.out.block⟩⟩
        case measure => simp [intOf]; omega
    · obtain rfl : k = D.blocks.length := by omega
      have tk : decide ((D.blocks.length : Int) < (D.blocks.length : Int)) = false := by simp
      have hbel := hM
      obtain ⟨_, _, _, _, _, hbel⟩ := hbel
      have e1 : wr.cell? ⟨b, 1, none⟩ = some (.slice A1 ps.length c1) := ((HR.out.hb.below hbel HR.out.hb.lt).cell 1)
      have hN : Noting P w w.heap.size D 0 wr := by
        obtain ⟨S, hS, hSl⟩ := copying_end (P := P) HR.out.fresh (by omega) (Nat.le_refl _) HO.out hM
        exact ⟨S, by simpa using hS, hSl, hbel⟩
      have HN := Lib.hid hN
      clear hM hbel hN
      go_wp2
      go_loopw [7, 37] (fun _ i wz => ∃ k : Nat, k ≤ ps.length ∧ i = .int .i64 k ∧ Noting P w w.heap.size D k wz) (fun _ i _ => ps.length - (intOf i).toNat)
      case atStart => exact ⟨0, Nat.zero_le _, rfl, HN.out⟩
      case round =>
        obtain ⟨k, hk, rfl, hM⟩ := hrel
        by_cases hlt : k < ps.length
        · have tk : decide ((k : Int) < (ps.length : Int)) = true := by simp; omega
          obtain ⟨S, ⟨ho2, cg1, ccur, cpv, cps, rfl, hcr⟩, hS, hbel⟩ := hM
          obtain ⟨gp, rfl, hgpl, hpen⟩ := HP.out (by omega)
          obtain ⟨q1, q2⟩ := hpen k hlt
          obtain ⟨l, hpk, hB⟩ := HR.out.pen_at k hlt
          obtain ⟨hpi, hll⟩ := HO.out.pen _ (List.mem_of_getElem? hpk)
          obtain ⟨gx, cx, curx, hvx, _, _, _, hcx⟩ := hB.cells
          rw [hvx] at q2
          have HCX : Hid (Cells wr gx 0 (l.map bv)) := Cells.keeps hcx (Keeps.of_below (F := fun _ => False) hbel) id
          have q1w := (Keeps.of_below (F := fun _ => False) hbel).cell q1 id
          have q2w := (Keeps.of_below (F := fun _ => False) hbel).cell q2 id
          clear q1 q2 hpen hB hcx
          have c1w := hcr.c1
          have c1a : ∀ o, (wr.alloc o).cell? ⟨w.heap.size, 1, none⟩ = some cpv := fun o => Lib.cell?_alloc_some _ c1w
          have f1 := hcr.hb.frozen 1
          have hbl := hcr.hb.lt
          have HCR := Lib.hid hcr
          have HS := Lib.hid hS
          have HBEL := Lib.hid hbel
          have HO2 := Lib.hid ho2
          have HPK := Lib.hid hpk
          have HPI : Hid ((pen ps k).1 < D.blocks.length) := hpi
          have HLL : Hid (l.length = 256) := hll
          have HVX := Lib.hid hvx
          have hl2 : l.length ≤ 70368744177664 := by rw [HLL.out]; decide
          have hpkl : (D.pending.take k).length ≤ 1000000 := by rw [List.length_take]; omega
          obtain ⟨ix, hix⟩ : ∃ ix : Nat, ix = (pen ps k).1 := ⟨_, rfl⟩
          rw [← hix] at q1w
          have HIX := Lib.hid hix
          have B7 : Blk (wr.alloc (.cells #[.int .i64 (ix : Int), .slice (some ⟨gx, 0, none⟩) l.length cx] 109)).drew wr.heap.size 109 #[.int .i64 (ix : Int), .slice (some ⟨gx, 0, none⟩) l.length cx] := Blk.new wr _ _
          have HB7 := Lib.hid B7
          have HCXa : Hid (Cells (wr.alloc (.cells #[.int .i64 (ix : Int), .slice (some ⟨gx, 0, none⟩) l.length cx] 109)).drew gx 0 (l.map bv)) := Cells.keeps HCX.out (F := fun _ => False) (((Keeps.refl _ wr).alloc _).drew) id
          clear hcr hS hbel ho2 hpk hpi hll hvx hix B7
          go_wp2
          go_region_law
            (first
              | (go_simp; go_at_call 31; refine (clone_bytes gx 0 l.length cx l _ rfl hl2 ?_).mono ?_; exact HCXa.out; rintro e w2 ⟨g', cap, rfl, hB2, hbel2⟩; have HB2 := Lib.hid (hB2.mono (Q := (wr.heap.size ≤ ·)) fun q hq => Nat.le_trans (by simp) hq); have HK2 : Hid (Keeps (fun _ => False) wr w2) := (((Keeps.refl (fun _ => False) wr).alloc _).drew).trans (Keeps.of_below (F := fun _ => False) hbel2) (fun _ _ h => h); have B2 := HCR.out.hb.keeps HK2.out id; have c02 : w2.cell? ⟨w.heap.size, 1, none⟩ = some cpv := B2.cell 1; have c02a : ∀ o, (w2.alloc o).cell? ⟨w.heap.size, 1, none⟩ = some cpv := fun o => (B2.alloc o).cell 1; have f02 := B2.frozen 1; have B72 := HB7.out.below hbel2 HB7.out.lt; have z0 : w2.cell? ⟨wr.heap.size, 0, none⟩ = some (.int .i64 (ix : Int)) := B72.cell 0; have z1 : w2.cell? ⟨wr.heap.size, 1, none⟩ = some (.slice (some ⟨gx, 0, none⟩) l.length cx) := B72.cell 1; clear hB2 hbel2)
              | (refine step_append_lies _ (by rfl) _ _ _ (by rfl) 0 109 in_ _ 2 32 Try.underlying97 hin nz0 nz1 nz2 rfl (by omega) cpv (D.pending.take k).length (penCells cps) (by rfl) (((ownsRow_keeps HCR.out.own HK2.out (fun _ _ h => h)).alloc _).drew)
                  ⟨w2.heap.size, 0, none⟩ 1 1 [.int .i64 (ix : Int), .slice (some ⟨g', 0, none⟩) l.length cap] (by rfl) (by rfl) (World.news_of_block (cs := #[.int .i64 (ix : Int), .slice (some ⟨g', 0, none⟩) l.length cap]) (t := 109) (fr := (0, 0)) (heap_alloc_new _ _)) (by simp [Value.oneCell'])
                  (by omega) (by unfold maxLen; omega) (by omega) (by omega) (w2.heap.size + 1) (by simp) ?_; intro gg cap2 w3 hown3 hgrow hat hlt3; have B3 := (B2.alloc _).grown hgrow HCR.out.ne2; have hc3 := (B3.at1 1 _ rfl).1; have hf3 := B3.frozen 1; have HW3 := Lib.hid hown3; have HG3 := Lib.hid hgrow; have HT3 := Lib.hid hat; clear hown3 hgrow hat))
          all_goals
            go_wp2
            go_roundw
            case rel =>
              refine ⟨k + 1, by omega, by go_num, ?_⟩
              rw [← List.length_take]
              exact Noting.step (p := (ix, l)) HBEL.out HS.out HCR.out HO2.out HK2.out HB2.out HLL.out (by rw [HIX.out]; exact HPI.out) (by rw [HPK.out, HIX.out]) HW3.out ⟨HG3.out.os, HG3.out.tape, HG3.out.output, HG3.out.size, HG3.out.block⟩ HT3.out
            case measure => simp [intOf]; omega
        · obtain rfl : k = ps.length := by omega
          have tk : decide ((ps.length : Int) < (ps.length : Int)) = false := by simp
          have HM := Lib.hid hM
          clear hM
          go_wp2
          go_ret
          obtain ⟨S, hS, hSl, hbel⟩ := HM.out
          rw [HPL.out, List.take_length] at hS
          exact ⟨rfl, ⟨S, hS, hSl⟩, hbel⟩

theorem copy_any {P : Nat → Prop} {b : Nat} {D : Dsk} {S : List Nat} (w : World) (h : DiskAt P w b D S) (hn : D.pending.length ≤ 1000000) :
    Calls Try.prog 23 #[.pointer (some ⟨b, 0, none⟩)] w fun e w' => e = .returned (.pointer (some ⟨w.heap.size, 0, none⟩)) ∧ (∃ S, DiskAt P w' w.heap.size D S ∧ ∀ q ∈ S, w.heap.size ≤ q) ∧ Below w.heap.size w w' := by
  obtain ⟨ho, g1, cur1, pv, ps, rfl, hr⟩ := h
  exact copy_rep w hr ho hn

end Go.Proofs.Ytbgiklkpinflaaa
