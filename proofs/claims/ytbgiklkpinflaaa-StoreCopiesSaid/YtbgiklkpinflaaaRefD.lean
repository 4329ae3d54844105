/- The reference's disk: Spoil, the walk. The reference's disk: Copy. -/
import Derived.Test.YtbgiklkpinflaaaRefC

namespace Go.Proofs.Ytbgiklkpinflaaa.Ref
open Go.RowKit Go.Shelf
open Go.Proofs.Ytbgiklkpinflaaa hiding DiskRep DiskAt After PenSlice Settling Crashing
attribute [local go_sem ↓] Go.wp_at_zero Go.wp_at_succ

set_option maxRecDepth 100000 in
set_option maxHeartbeats 2000000 in
theorem spoil_bad {P : Nat → Prop} {b : Nat} {D : Dsk} {S : List Nat} (w : World) (h : DiskAt P w b D S) (i k y : Int) (hbad : (D.spoil i k y).1 ≠ 0) :
    Calls Try.prog 53 #[.pointer (some ⟨b, 0, none⟩), .int .i64 i, .int .i64 k, .int .u8 y] w fun e w' => e = .returned (.int .i64 (D.spoil i k y).1) ∧ (D.spoil i k y).2 = D ∧ w = w' := by
  obtain ⟨ho, g1, cur1, pv, ps, rfl, hr⟩ := h
  have h0 := hr.c0
  have h3 := hr.c3
  obtain ⟨R, hR⟩ : ∃ R, R = D.spoil i k y := ⟨_, rfl⟩
  rw [← hR] at hbad ⊢
  clear hr ho
  cases hd : D.down
  · rw [hd] at h3
    by_cases h1 : i < 0
    · have t1 : decide (i < 0) = true := by simpa using h1
      have e : R = (51, D) := by rw [hR]; unfold Dsk.spoil; rw [hd, if_neg (by simp), if_pos (.inl h1)]
      rw [e]
      clear hR hbad e
      go_enter Try.func53, Try.ntmps53
      go_wp2
      go_ret
      first | exact ⟨rfl, trivial, rfl⟩ | exact ⟨rfl, rfl⟩
    · by_cases h2 : (D.blocks.length : Int) ≤ i
      · have t1 : decide (i < 0) = false := by simpa using h1
        have t2 : decide ((D.blocks.length : Int) ≤ i) = true := by simpa using h2
        have e : R = (51, D) := by rw [hR]; unfold Dsk.spoil; rw [hd, if_neg (by simp), if_pos (.inr h2)]
        rw [e]
        clear hR hbad e
        go_enter Try.func53, Try.ntmps53
        go_wp2
        go_ret
        first | exact ⟨rfl, trivial, rfl⟩ | exact ⟨rfl, rfl⟩
      · have hk : k < 0 ∨ 256 ≤ k := by
          rcases Int.lt_or_le k 0 with h | h
          · exact .inl h
          · rcases Int.lt_or_le k 256 with h5 | h5
            · exfalso
              refine hbad ?_
              rw [hR]
              unfold Dsk.spoil
              rw [hd, if_neg (by simp), if_neg (by omega), if_neg (by omega)]
            · exact .inr h5
        have t1 : decide (i < 0) = false := by simpa using h1
        have t2 : decide ((D.blocks.length : Int) ≤ i) = false := by simpa using h2
        have e : R = (2, D) := by rw [hR]; unfold Dsk.spoil; rw [hd, if_neg (by simp), if_neg (by omega), if_pos hk]
        rw [e]
        clear hR hbad e
        by_cases h5 : k < 0
        all_goals
          first
            | (have t3 : decide (k < 0) = true := by simpa using h5)
            | (have t3 : decide (k < 0) = false := by simpa using h5
               have t4 : decide ((256 : Int) ≤ k) = true := by simp; omega)
          go_enter Try.func53, Try.ntmps53
          go_wp2
          go_ret
          first | exact ⟨rfl, trivial, rfl⟩ | exact ⟨rfl, rfl⟩
  · have e : R = (50, D) := by rw [hR]; unfold Dsk.spoil; rw [hd, if_pos rfl]
    rw [e]
    rw [hd] at h3
    clear hR hbad e
    go_enter Try.func53, Try.ntmps53
    go_wp2
    go_ret
    first | exact ⟨rfl, trivial, rfl⟩ | exact ⟨rfl, rfl⟩

theorem spoil_end {P : Nat → Prop} {w W4 w5 : World} {b g1 g5 cap5 i k : Nat} {D : Dsk} {cur : Array Value} {pv pv3 : Value} {ps3 : List (Nat × Value)} {l : List UInt8} {y : Int} (hr4 : DiskRep P W4 b { D with blocks := D.blocks.set i l, pending := D.pending.filter fun p => !(p.1 == i) } g1 cur pv3 ps3) (hk5 : Keeps (fun _ => False) W4 w5)
    (hb5 : BytesAt (W4.heap.size ≤ ·) w5 (.slice (some ⟨g5, 0, none⟩) l.length cap5) l) (ho : DskOk D) (hi : i < D.blocks.length) (hd : D.down = false) (hk : k < 256) (hl : l = D.see i) (hkw : Keeps (fun q => q = b ∨ q = g1) w W4) (hpv : ∀ q, pv3.ownBlock = some q → w.heap.size ≤ q) :
    After P w ((w5.setCell ⟨g5, k, none⟩ (.int .u8 (bits BinOp.xor IntKind.u8 ((l[k]?.getD 0).toNat : Int) y))).setCell ⟨g1, i, none⟩ (.slice (some ⟨g5, 0, none⟩) l.length cap5)) b (D.spoil i k y).2 (b :: g1 :: pv.ownBlock.toList) := by
  have hsp := DiskRep.placed hr4 hk5 hb5 (i := i) (by simpa using hi) k (UInt8.ofNat (bits BinOp.xor IntKind.u8 ((l[k]?.getD 0).toNat : Int) y).toNat)
  rw [bv_ofNat (bits_lo_u8 _ _ _) (by have := bits_hi_u8 BinOp.xor ((l[k]?.getD 0).toNat : Int) y; omega)] at hsp
  have hg5 : W4.heap.size ≤ g5 := by
    obtain ⟨g', cap', cur', hv, hq, _⟩ := hb5
    injection hv with ha _ _
    injection ha with ha
    injection ha with ha _ _
    rw [ha]; exact hq
  have e : (D.spoil i k y).2 = { D with blocks := (D.blocks.set i l).set i (l.set k (UInt8.ofNat (bits BinOp.xor IntKind.u8 ((l[k]?.getD 0).toNat : Int) y).toNat)), pending := D.pending.filter fun p => !(p.1 == i) } := by
    rw [spoil_fine hd y hi hk, List.set_set, hl]
    rfl
  have hok : DskOk (D.spoil i k y).2 := by
    rw [spoil_fine hd y hi hk]
    exact Ref.filter_ok ho _ (by rw [Ref.spoilB_length, Ref.see_length ho hi])
  rw [e] at hok ⊢
  refine ⟨b :: g1 :: pv3.ownBlock.toList, ⟨hok, g1, _, pv3, ps3, rfl, hsp⟩, fun q hq => ?_, ?_⟩
  · simp only [List.mem_cons, Option.mem_toList] at hq
    rcases hq with h | h | h
    · exact .inl (by simp [h])
    · exact .inl (by simp [h])
    · exact .inr (hpv q h)
  · have k1 : Keeps (fun q => q ∈ b :: g1 :: pv.ownBlock.toList) w W4 := hkw.weaken fun q _ h => by
      rcases h with h | h <;> simp [h]
    have hs := hkw.size
    exact ((k1.trans hk5 (fun _ _ h => h.elim)).setCell (p := ⟨g5, k, none⟩) (fun h => by have h : g5 < w.heap.size := h; omega) _).setCell (p := ⟨g1, i, none⟩) (fun _ => by simp) _

set_option maxRecDepth 100000 in
set_option maxHeartbeats 4000000 in
theorem spoil_good {P : Nat → Prop} {b : Nat} {D : Dsk} {g1 : Nat} {cur1 : Array Value} {pv : Value} {ps : List (Nat × Value)} (w : World) (h : DiskRep P w b D g1 cur1 pv ps) (ho : DskOk D) (hd : D.down = false) (hn : D.pending.length ≤ 1000000)
    (i k : Nat) (y : Int) (hi : i < D.blocks.length) (hk : k < 256) :
    Calls Try.prog 53 #[.pointer (some ⟨b, 0, none⟩), .int .i64 (i : Int), .int .i64 (k : Int), .int .u8 y] w fun e w' => e = .returned (.int .i64 0) ∧ After P w w' b (D.spoil i k y).2 (b :: g1 :: pv.ownBlock.toList) := by
  have hf := ho.few
  have h3 := h.c3
  rw [hd] at h3
  have h0 := h.c0
  have h1 := h.c1
  obtain ⟨A1, c1, rfl, hp1⟩ := PenSlice.of_own h.own h.pslen
  have hpl := h.pslen
  have hpsr : ps.length ≤ 1000000 := by omega
  obtain ⟨iu, hiu, uz0, uz1, uz2⟩ := info_parts Try.infoU8
  obtain ⟨iw, hiw, hz0, hz1, hz2⟩ := info_parts Try.infoNote
  have t1 : decide ((i : Int) < 0) = false := by simp
  have t2 : decide ((D.blocks.length : Int) ≤ (i : Int)) = false := by simp; omega
  have t3 : decide ((k : Int) < 0) = false := by simp
  have t4 : decide ((256 : Int) ≤ (k : Int)) = false := by simp; omega
  have t5 : decide (D.blocks.length ≤ i) = false := by simp; omega
  have hblk := h.blks
  have HR := Lib.hid h
  have HO := Lib.hid ho
  have HP := Lib.hid hp1
  have HPL := Lib.hid hpl
  have HBLK := Lib.hid hblk
  clear hp1 h ho hpl hblk
  go_enter Try.func53, Try.ntmps53
  go_wp2
  go_loopw [9, 11, 39] (fun v _ x wr => ∃ j : Nat, j ≤ ps.length ∧ x = .int .i64 j ∧ Spoiling P w b D i g1 cur1 (.slice A1 ps.length c1) ps j v wr) (fun _ _ x _ => ps.length - (intOf x).toNat)
  case atStart => exact ⟨0, Nat.zero_le _, rfl, Spoiling.start HR.out⟩
  case round =>
    obtain ⟨j, hj, rfl, hset⟩ := hrel
    by_cases hlt : j < ps.length
    · obtain ⟨gp, rfl, _, hpen⟩ := HP.out (by omega)
      have hcr := hset.1
      obtain ⟨q1, q2⟩ := hcr.pen_at hlt rfl
      obtain ⟨cur, hcs, hr, hkk⟩ := id hcr
      obtain ⟨l, hpk, hB⟩ := hr.pen_at j hlt
      obtain ⟨gx, cx, _, hvx, _⟩ := id hB
      have hpk' : D.pending[j]? = some ((pen ps j).1, l) := hpk
      have q3 := hr.c0
      simp only [settleIf_length] at q3
      have q4 := hr.hg.frozen i
      obtain ⟨go, no, co, q5⟩ := hcr.has hi
      have HX := Lib.hid hvx
      rw [hvx] at q2
      have q3a : ∀ o, (wr.alloc o).cell? ⟨b, 0, none⟩ = some (.slice (some ⟨g1, 0, none⟩) D.blocks.length cur.size) := fun o => Lib.cell?_alloc_some _ q3
      have q5a : ∀ o, (wr.alloc o).cell? ⟨g1, i, none⟩ = some (.slice go no co) := fun o => Lib.cell?_alloc_some _ q5
      have q4a : ∀ o, (wr.alloc o).frozen? ⟨g1, i, none⟩ = false := fun o => by rw [World.frozen?_alloc_old _ _ _ (Nat.ne_of_lt hr.hg.lt)]; exact q4
      have HS := Lib.hid hset
      have tk : decide ((j : Int) < (ps.length : Int)) = true := by simp; omega
      have hht : hits D i j = ((pen ps j).1 == i) := by unfold hits; rw [hpk']; rfl
      have HHT := Lib.hid hht
      have hkl := keptTo_le ps i j
      have hsz : w.heap.size ≤ wr.heap.size := hkk.size
      clear hset hpk hpk' hvx hB hr hkk hcs hpen hht hcr
      by_cases he : (pen ps j).1 = i
      · have he2 : (((pen ps j).1 : Int) == (i : Int)) = true := by simp [he]
        have hf2 : hits D i j = true := by rw [HHT.out]; simpa using he
        have HE := Lib.hid he
        clear he
        go_wp2
        go_region
        all_goals
          go_wp2
          go_roundw
          case rel =>
            have hst := HS.out.hit hf2 hlt HE.out HO.out (.cells #[.int .i64 ((pen ps j).1 : Int), (pen ps j).2] 132)
            rw [HX.out] at hst
            first
              | exact ⟨j + 1, by omega, by go_num, hst⟩
              | (rw [HE.out] at hst; exact ⟨j + 1, by omega, by go_num, hst⟩)
              | (rw [HE.out]; exact ⟨j + 1, by omega, by go_num, hst⟩)
          case measure => simp [intOf]; omega
      · have he2 : (((pen ps j).1 : Int) == (i : Int)) = false := by rw [beq_eq_false_iff_ne]; omega
        have hf2 : hits D i j = false := by rw [HHT.out]; simpa using he
        have HE := Lib.hid he
        clear he
        obtain ⟨ix, hix⟩ : ∃ ix : Nat, ix = (pen ps j).1 := ⟨_, rfl⟩
        rw [← hix] at q1 he2
        have HIX := Lib.hid hix
        clear hix
        go_wp2_with (at_builtin; refine wpList_append_lies _ rfl _ _ 100 rfl w.heap.size 132 iw (.agg #[.int .i64 0, .slice none 0 0]) 2 32 Try.underlying100 hiw hz0 hz1 hz2 rfl (by decide) _ _ _ rfl ((HS.out.2.alloc _).alloc _) ⟨wr.heap.size + 1, 0, none⟩ 1 1 [.int .i64 (ix : Int), .slice (some ⟨gx, 0, none⟩) l.length cx] rfl rfl ?c1 ?c2 (by decide) ?c3 ?c4 ?c5 (wr.heap.size + 2) ?c8 ?_)
        case c1 =>
          have e : (wr.alloc (.cells #[.int .i64 (ix : Int), .slice (some ⟨gx, 0, none⟩) l.length cx] 132)).heap.size = wr.heap.size + 1 := World.size_alloc _ _
          have := World.news_of_block (heap_alloc_new (wr.alloc (.cells #[.int .i64 (ix : Int), .slice (some ⟨gx, 0, none⟩) l.length cx] 132)) (.cells #[.int .i64 (ix : Int), .slice (some ⟨gx, 0, none⟩) l.length cx] 132))
          rw [e] at this
          exact this
        case c2 => simp [Value.oneCell']
        case c3 => unfold maxLen; omega
        case c4 => omega
        case c5 => simp; omega
        case c8 => simp
        intro gg cap2 w3 hown3 hgrow hat hlt3
        have HW3 := Lib.hid hown3
        have HG3 := Lib.hid hgrow
        clear hown3 hgrow hat
        go_wp2
        go_roundw
        case rel =>
          refine ⟨j + 1, by omega, by go_num, HS.out.other HBLK.out hf2 hlt HE.out ?_ HG3.out⟩
          have := HW3.out
          rw [HIX.out, ← HX.out] at this
          exact this
        case measure => simp [intOf]; omega
    · obtain rfl : j = ps.length := by omega
      have tk : decide ((ps.length : Int) < ps.length) = false := by simp
      obtain ⟨cur, hst, hkst⟩ := hset.stored hi
      obtain ⟨zv, hzv⟩ : ∃ v, wr.cell? ⟨b, 1, none⟩ = some v := by
        obtain ⟨⟨_, _, hr, _⟩, _⟩ := hset
        exact ⟨_, hr.c1⟩
      have hzf : wr.frozen? ⟨b, 1, none⟩ = false := by
        obtain ⟨⟨_, _, hr, _⟩, _⟩ := hset
        exact hr.hb.frozen 1
      obtain ⟨n9, A9, c9, rfl, hp9⟩ : ∃ n A c, u9 = .slice A n c ∧ (∀ q, u9.ownBlock = some q → w.heap.size ≤ q) := by
        rcases hset.2.2 with ⟨e, _⟩ | ⟨g, cap, _, e, hb, _⟩
        · exact ⟨_, _, _, e, fun q hq => by rw [e] at hq; simp [Value.ownBlock] at hq⟩
        · exact ⟨_, _, _, e, fun q hq => by rw [e] at hq; simp [Value.ownBlock] at hq; omega⟩
      have HP9 := Lib.hid hp9
      have HST := Lib.hid hst
      have HKST := Lib.hid hkst
      clear hset hst hkst hp9
      obtain ⟨W4, hW4⟩ : ∃ W4, W4 = wr.setCell ⟨b, 1, none⟩ (.slice A9 n9 c9) := ⟨_, rfl⟩
      have hr4 := HST.out
      rw [← hW4] at hr4
      obtain ⟨l4, hl4⟩ : ∃ l4, l4 = D.see i := ⟨_, rfl⟩
      rw [← hl4] at hr4
      obtain ⟨vq, hvq, hBq⟩ := hr4.bl i l4 (by rw [List.getElem?_set_self hi])
      obtain ⟨gq, cq, curq, rfl, _, _, _, hcq⟩ := hBq.cells
      have q40a : ∀ o, (W4.alloc o).cell? ⟨b, 0, none⟩ = some (.slice (some ⟨g1, 0, none⟩) D.blocks.length cur.size) := fun o => Lib.cell?_alloc_some _ (by have := hr4.c0; simpa using this)
      have q4ga : ∀ o, (W4.alloc o).cell? ⟨g1, i, none⟩ = some (.slice (some ⟨gq, 0, none⟩) l4.length cq) := fun o => Lib.cell?_alloc_some _ ((hr4.hg.cell i).trans hvq)
      have HSL : Hid (l4.length = 256) := by have := see_length HO.out hi; rw [← hl4] at this; exact this
      have hl2 : l4.length ≤ 70368744177664 := by rw [HSL.out]; decide
      have hl0 : 0 < l4.length := by rw [HSL.out]; decide
      have HL4 := Lib.hid hl4
      have HCQ : Hid (∀ o, Cells (W4.alloc o) gq 0 (l4.map bv)) := fun o => Cells.keeps hcq (F := fun _ => False) ((Keeps.refl _ W4).alloc o) id
      have hle := hr4.le
      have hle2 : i < cur.size := by simp only [List.length_set] at hle; omega
      have HR4 := Lib.hid hr4
      clear hl4 hr4 hBq hcq hvq hle
      have hgo : ∀ u : World, u = wr.setCell ⟨b, 1, none⟩ (.slice A9 n9 c9) → u = W4 := fun u e => by rw [hW4]; exact e
      have HGO := Lib.hid hgo
      have HW4 := Lib.hid hW4
      clear hgo hW4
      go_upto_region 16 with fail
      rw [← HW4.out]
      go_wp2_with (at_builtin; refine wpList_append_lies _ rfl _ _ 26 rfl W4.heap.size 5 iu (.int .u8 0) 1 1 Try.underlying26 hiu uz0 uz1 uz2 rfl (by decide) _ _ _ rfl (empty_own W4) ⟨gq, 0, none⟩ l4.length cq (l4.map bv) rfl ?c0 ?c1 (oneCell_bv _) ?c2 ?c3 ?c4 ?c5 (W4.heap.size + 1) ?c8 ?_)
      case c0 => simp
      case c1 => exact cells_add (HCQ.out _)
      case c2 => exact hl0
      case c3 => unfold maxLen; omega
      case c4 => omega
      case c5 => simp
      case c8 => simp
      intro g5 cap5 w5 hown5 hgrow5 _ _
      have hB5 : BytesAt (W4.heap.size ≤ ·) w5 (.slice (some ⟨g5, 0, none⟩) l4.length cap5) l4 := own_bytes (by simpa using hown5) hl0
      have hk5 : Keeps (fun _ => False) W4 w5 := ((Keeps.refl (fun _ => False) W4).alloc _).grown hgrow5 fun g e hg => by
        simp [Value.ownBlock] at e
        omega
      have HEND := Lib.hid (spoil_end (y := y) (pv := .slice A1 ps.length c1) HR4.out hk5 hB5 HO.out hi hd hk HL4.out (by have := HKST.out; rw [← HW4.out] at this; exact this) HP9.out)
      have hr4 := HR4.out
      obtain ⟨g5', cap5', cur5, hv5, hq5, hb5', _, _, hs5, ht5⟩ := hB5
      injection hv5 with ha _ hc5
      injection ha with ha
      injection ha with ha _ _
      subst ha hc5
      have hk4 : k < l4.length := by rw [HSL.out]; exact hk
      obtain ⟨x8, hx8⟩ : ∃ x : Int, x = ((l4[k]?.getD 0).toNat : Int) := ⟨_, rfl⟩
      rw [← hx8] at HEND
      have sk : w5.cell? ⟨g5, k, none⟩ = some (.int .u8 x8) := (hb5'.cell k).trans (by
        rw [hx8]
        have := congrArg (fun z => z[k]?) ht5
        simp only [List.getElem?_take, if_pos hk4, List.getElem?_map, List.getElem?_eq_getElem hk4, Array.getElem?_toList] at this
        rw [this, List.getElem?_eq_getElem hk4]
        rfl)
      have sf := hb5'.frozen k
      have hg5b : g5 ≠ b := fun e => by have := hr4.hb.lt; have hq5 : W4.heap.size ≤ g5 := hq5; omega
      have hg5g : g5 ≠ g1 := fun e => by have := hr4.hg.lt; have hq5 : W4.heap.size ≤ g5 := hq5; omega
      have s0 : ∀ u, (w5.setCell ⟨g5, k, none⟩ u).cell? ⟨b, 0, none⟩ = some (.slice (some ⟨g1, 0, none⟩) D.blocks.length cur.size) := fun u => by
        have := ((hr4.hb.keeps hk5 id).far (p := ⟨g5, k, none⟩) (Ne.symm hg5b) u).cell 0
        simpa using this
      have sg : ∀ u, ∃ v, (w5.setCell ⟨g5, k, none⟩ u).cell? ⟨g1, i, none⟩ = some v := fun u => ⟨_, (((hr4.hg.keeps hk5 id).far (p := ⟨g5, k, none⟩) (Ne.symm hg5g) u).cell i).trans (Array.getElem?_eq_getElem hle2)⟩
      have sgf : ∀ u, (w5.setCell ⟨g5, k, none⟩ u).frozen? ⟨g1, i, none⟩ = false := fun u => ((hr4.hg.keeps hk5 id).far (p := ⟨g5, k, none⟩) (Ne.symm hg5g) u).frozen i
      obtain ⟨vg, sg⟩ := sg (.int .u8 (bits BinOp.xor IntKind.u8 x8 y))
      clear hx8 hown5 hgrow5 hk5 hb5' hr4 hs5 ht5
      go_wp2
      go_ret
      exact ⟨rfl, HEND.out⟩

end Go.Proofs.Ytbgiklkpinflaaa.Ref

namespace Go.Proofs.Ytbgiklkpinflaaa.Ref
open Go.RowKit Go.Shelf
open Go.Proofs.Ytbgiklkpinflaaa hiding DiskRep DiskAt After PenSlice Settling Crashing
attribute [local go_sem ↓] Go.wp_at_zero Go.wp_at_succ

/-- append(nil, xs...) at a step of a region that draws: xs nil or not, empty or not. -/
theorem step_append_all {P : Program} {w : World} {ops : Array Oper} {o : Oper} {a : Go.Act} {K : Go.Act → World → Prop} {E : Prop} {Q : Exit → Go.Act → World → Prop} (hgd : o.guard = none) (s x : Operand) (t : TypeId)
    (ho : o.op = .call { callee := .builtin .append, args := #[s, x], argTypes := #[t, t] })
    (base : Nat) (e : TypeId) (i : TypeInfo) (z : Value) (size bytes : Nat) (ht : P.underlying t = some (.slice e)) (hi : P.info? e = some i) (hz : i.zero = some z)
    (hsize : i.size = size) (hby : i.bytes = bytes) (hzs : z.cells.size = size) (hsz : 0 < size)
    (hs : a.eval s = .slice none 0 0) (xv : Value) (hx : a.eval x = xv) (m : Nat) (news : List Value) (hl : news.length = m * size)
    (hxv : (xv = .slice none 0 0 ∧ m = 0) ∨ ∃ ad c, xv = .slice (some ad) m c ∧ ∀ j u, news[j]? = some u → w.cell? (ad.add j) = some u) (h1 : ∀ u ∈ news, u.oneCell' = true)
    (h63 : m ≤ maxLen) (hbytes : m * bytes ≤ 140737488355328) (hbase : base ≤ w.heap.size)
    (h : ∀ A n c w', w'.ownsRow base e size (.slice A n c) m news → w.grownBy w' none → K (a.put o.dst (.slice A n c)) w') :
    if Region.wanted o (yielded ops a.tmps) = true then Oper.wp P o a w K Q else E := by
  have hw : Region.wanted o (yielded ops a.tmps) = true := by simp [Region.wanted, hgd]
  rw [if_pos hw]
  have hown : w.ownsRow base e size (.slice none 0 0) 0 [] := ⟨by simp, .inl ⟨rfl, rfl⟩⟩
  have key : ∃ A n c w', (Builtin.append_ #[t, t] o.type #[.slice none 0 0, xv]).run P w = .ok (.slice A n c) w' ∧ w'.ownsRow base e size (.slice A n c) m news ∧ w.grownBy w' none := by
    rcases hxv with ⟨rfl, rfl⟩ | ⟨ad, c, rfl, hn⟩
    · have hr := run_append_owned_none (P := P) (w := w) base t o.type e i size ht hi _ _ _ hown
      have hnil : news = [] := List.length_eq_zero_iff.1 (by omega)
      subst hnil
      exact ⟨none, 0, 0, w, hr, hown, rfl, rfl, rfl, Nat.le_refl _, fun _ _ _ => rfl⟩
    · obtain ⟨v', w', hr, h2, h3, _, h5⟩ := run_append_own_at (P := P) w base t o.type e i z size bytes ht hi hz hsize hby hzs hsz _ _ _ hown ad m c news hl hn h1 (by omega) (by simpa using hbytes) hbase
      simp only [Nat.zero_add, List.nil_append] at h2
      rcases h2.2 with ⟨e, _⟩ | ⟨g, cap, _, e, _⟩
      · subst e
        exact ⟨_, _, _, w', hr, h2, h3⟩
      · subst e
        exact ⟨_, _, _, w', hr, h2, h3⟩
  obtain ⟨A, n, c, w', hr, h2, h3⟩ := key
  unfold Oper.wp execOp
  simp only [ho, resolve, invoke, builtin, Sem.run_bind, Sem.run_pure, Result.andThen_ok, List.map_toArray, List.map_cons, List.map_nil, hs, hx, hr]
  exact h A n c w' h2 h3

section
variable {P : Nat → Prop} {w : World} {b : Nat} {D : Dsk} {g1 : Nat} {cur1 : Array Value} {pv : Value} {ps : List (Nat × Value)}
theorem DiskRep.news1 (h : DiskRep P w b D g1 cur1 pv ps) : (cur1.toList.take D.blocks.length).length = D.blocks.length * 1 ∧ (∀ j u, (cur1.toList.take D.blocks.length)[j]? = some u → w.cell? ((⟨g1, 0, none⟩ : Addr).add j) = some u) ∧ ∀ u ∈ cur1.toList.take D.blocks.length, u.oneCell' = true := by
  have hle := h.le
  refine ⟨by rw [List.length_take]; simp; omega, fun j u hj => ?_, fun u hu => ?_⟩
  · rw [List.getElem?_take] at hj
    split at hj
    · have e : (⟨g1, 0, none⟩ : Addr).add j = ⟨g1, j, none⟩ := by unfold Addr.add; split <;> simp_all
      rw [e, h.hg.cell]
      simpa using hj
    · cases hj
  · obtain ⟨j, hj, rfl⟩ := List.getElem_of_mem hu
    have hj' : j < D.blocks.length := by rw [List.length_take] at hj; omega
    obtain ⟨v, hv, hB⟩ := h.bl j _ (List.getElem?_eq_getElem hj')
    have : (cur1.toList.take D.blocks.length)[j] = v := by
      have h2 : (cur1.toList.take D.blocks.length)[j]? = some v := by rw [List.getElem?_take, if_pos hj']; simpa using hv
      rw [List.getElem?_eq_getElem hj] at h2
      injection h2
    rw [this]
    obtain ⟨g, cap, _, rfl, _⟩ := hB
    rfl
theorem DiskRep.news2 (h : DiskRep P w b D g1 cur1 pv ps) : (penCells ps).length = D.pending.length * 2 ∧ ((pv = .slice none 0 0 ∧ D.pending.length = 0) ∨ ∃ ad c, pv = .slice (some ad) D.pending.length c ∧ ∀ j u, (penCells ps)[j]? = some u → w.cell? (ad.add j) = some u) ∧ ∀ u ∈ penCells ps, u.oneCell' = true := by
  refine ⟨by rw [penCells_length, h.pslen], ?_, fun u hu => ?_⟩
  · rcases h.own.2 with ⟨e, h0⟩ | ⟨g, cap, cu, e, _, hb, hn, hm, hs, ht⟩
    · exact .inl ⟨e, h0⟩
    · refine .inr ⟨_, _, e, fun j u hj => ?_⟩
      have e2 : (⟨g, 0, none⟩ : Addr).add j = ⟨g, j, none⟩ := by unfold Addr.add; split <;> simp_all
      rw [e2, Blk.cell (t := 132) hb]
      rw [← ht, List.getElem?_take] at hj
      split at hj
      · simpa using hj
      · cases hj
  · unfold penCells at hu
    obtain ⟨p, hp, hu⟩ := List.mem_flatMap.1 hu
    simp only [List.mem_cons, List.not_mem_nil, or_false] at hu
    rcases hu with rfl | rfl
    · rfl
    · obtain ⟨j, hj, rfl⟩ := List.getElem_of_mem hp
      have hj' : j < D.pending.length := by rw [← h.pslen]; exact hj
      obtain ⟨v, hv, g, cap, _, e, _⟩ := h.pl j _ (List.getElem?_eq_getElem hj')
      rw [List.getElem?_eq_getElem hj] at hv
      injection hv with hv
      rw [hv]
      subst e
      rfl
end
/-- The blocks are shared. -/
def Shared (w : World) (c : Nat) (D : Dsk) (cur1 : Array Value) (wx : World) : Prop :=
  ∃ A n cap, Blk wx c 102 #[.slice A n cap, .slice none 0 0, .int .i64 (D.armed : Int), .bool D.down, .int .i64 (D.life : Int)] ∧ wx.ownsRow (c + 1) 26 1 (.slice A n cap) D.blocks.length (cur1.toList.take D.blocks.length) ∧ Keeps (fun _ => False) w wx
theorem shared_end {P : Nat → Prop} {w w3 : World} {b c g1 : Nat} {D : Dsk} {cur1 : Array Value} {pv : Value} {ps : List (Nat × Value)} (h : DiskRep P w b D g1 cur1 pv ps) (ho : DskOk D) (hc : w.heap.size ≤ c) {v1 v2 : Value} (hb : Blk w3 c 102 #[v1, v2, .int .i64 (D.armed : Int), .bool D.down, .int .i64 (D.life : Int)])
    (h1 : w3.ownsRow (c + 1) 26 1 v1 D.blocks.length (cur1.toList.take D.blocks.length)) (h2 : w3.ownsRow (c + 1) 132 2 v2 D.pending.length (penCells ps)) (k : Keeps (fun _ => False) w w3) : ∃ S, DiskAt P w3 c D S ∧ ∀ q ∈ S, w.heap.size ≤ q := by
  have hs := ho.some_
  rcases h1.2 with ⟨_, h0⟩ | ⟨g, cap, cur, rfl, hbb, hg, hnc, hcm, hcs, ht⟩
  · omega
  · have hcs' : cur.size = cap := by simpa using hcs
    subst hcs'
    refine ⟨c :: g :: v2.ownBlock.toList, ⟨ho, g, cur, v2, ps, rfl, hb, hg, hnc, fun i l hi => ?_, ?_, h.pb, fun i p hp => ?_, fun q hq => h.fresh q (Nat.le_trans k.size hq)⟩, fun q hq => ?_⟩
    · obtain ⟨v, hv, hB⟩ := h.bl i l hi
      have hin : i < D.blocks.length := (List.getElem?_eq_some_iff.1 hi).1
      refine ⟨v, ?_, hB.keeps k fun _ _ h => h.elim⟩
      have : (cur.toList.take (D.blocks.length * 1))[i]? = some v := by rw [ht, List.getElem?_take, if_pos hin]; simpa using hv
      rw [List.getElem?_take, if_pos (by omega)] at this
      simpa using this
    · refine ⟨h2.1, h2.2.imp id ?_⟩
      rintro ⟨g, cap, c, e, _, r⟩
      exact ⟨g, cap, c, e, Nat.zero_le _, r⟩
    · obtain ⟨v, hv, hB⟩ := h.pl i p hp
      exact ⟨v, hv, hB.keeps k fun _ _ h => h.elim⟩
    · simp only [List.mem_cons, Option.mem_toList] at hq
      rcases hq with rfl | rfl | hq
      · exact hc
      · omega
      · rcases h2.2 with ⟨e, _⟩ | ⟨g2, _, _, e, hb2, _⟩
        · rw [e] at hq; simp [Value.ownBlock] at hq
        · rw [e] at hq; simp [Value.ownBlock] at hq
          omega

set_option maxRecDepth 100000 in
set_option maxHeartbeats 4000000 in
theorem copy_rep {P : Nat → Prop} {b : Nat} {D : Dsk} {g1 : Nat} {cur1 : Array Value} {pv : Value} {ps : List (Nat × Value)} (w : World) (h : DiskRep P w b D g1 cur1 pv ps) (ho : DskOk D) (hn : D.pending.length ≤ 1000000) :
    Calls Try.prog 24 #[.pointer (some ⟨b, 0, none⟩)] w fun e w' => e = .returned (.pointer (some ⟨w.heap.size, 0, none⟩)) ∧ (∃ S, DiskAt P w' w.heap.size D S ∧ ∀ q ∈ S, w.heap.size ≤ q) ∧ Below w.heap.size w w' := by
  have h0 := h.c0
  have h1 := h.c1
  have h2 := h.c2
  have h3 := h.c3
  have h4 := h.c4
  have hbl := h.hb.lt
  have hf := ho.few
  obtain ⟨iu, hiu, uz0, uz1, uz2⟩ := info_parts Try.infoBytes
  obtain ⟨iw, hiw, hz0, hz1, hz2⟩ := info_parts Try.infoNote
  have HR := Lib.hid h
  have HO := Lib.hid ho
  have HN1 := Lib.hid h.news1
  have HN2 := Lib.hid h.news2
  clear h ho
  go_enter Try.func24, Try.ntmps24
  go_wp2
  go_region
  go_wp2
  obtain ⟨W1, hW1⟩ : ∃ W1, W1 = (w.alloc (.cells #[.slice none 0 0, .slice none 0 0, .int .i64 (D.armed : Int), .bool D.down, .int .i64 (D.life : Int)] 102)).drew := ⟨_, rfl⟩
  have hk1 : Keeps (fun _ => False) w W1 := by rw [hW1]; exact ((Keeps.refl _ w).alloc _).drew
  have hb1 : Blk W1 w.heap.size 102 #[.slice none 0 0, .slice none 0 0, .int .i64 (D.armed : Int), .bool D.down, .int .i64 (D.life : Int)] := by rw [hW1]; exact Blk.new w _ _
  have hs1 : W1.heap.size = w.heap.size + 1 := by rw [hW1]; simp
  rw [← hW1]
  have m0 := hk1.cell h0 id
  have m1 := hb1.cell 0
  have HNA : Hid (∀ j u, (cur1.toList.take D.blocks.length)[j]? = some u → W1.drew.cell? ((⟨g1, 0, none⟩ : Addr).add j) = some u) := fun j u hj => hk1.cell (HN1.out.2.1 j u hj) id
  have HK1 := Lib.hid hk1
  have HB1 := Lib.hid hb1
  have HS1 : Hid (w.heap.size + 1 ≤ W1.drew.heap.size) := by show w.heap.size + 1 ≤ W1.heap.size; omega
  have hbr : D.blocks.length ≤ 1000000 := by omega
  clear hW1 hk1 hb1 hs1
  go_cut [] from 18 to 29 (fun wx => Shared w w.heap.size D cur1 wx)
  case first =>
    go_region_law
      (refine step_append_all (by rfl) _ _ _ (by rfl) (w.heap.size + 1) 26 iu _ 1 24 Try.underlying96 hiu uz0 uz1 uz2 rfl (by omega) (by rfl) (.slice (some ⟨g1, 0, none⟩) D.blocks.length cur1.size) (by rfl) D.blocks.length (cur1.toList.take D.blocks.length) HN1.out.1 (.inr ⟨_, _, rfl, HNA.out⟩) HN1.out.2.2
        (by unfold maxLen; omega) (by omega) HS1.out ?_; intro A n cap w3 hown hgrow; have B3 := Blk.grown HB1.out.drew hgrow (by simp); have c3 := B3.cell 0; have f3 := B3.frozen 0; have HOW := Lib.hid hown; have HG := Lib.hid hgrow; clear hown hgrow)
    all_goals
      go_wp2_with fail
      go_meet
      refine ⟨A, n, cap, B3.set_ 0 _, ownsRow_keeps HOW.out (Keeps.set1 w3 w.heap.size 0 _) (fun g hg e => ?_), (HK1.out.grown (w' := w3) ⟨HG.out.os, HG.out.tape, HG.out.output, HG.out.size, HG.out.block⟩ (fun g e _ => by cases e)).setCell (p := ⟨w.heap.size, 0, none⟩) (fun h => absurd h (Nat.lt_irrefl _)) _⟩
      subst e
      exact own_blk_ne HOW.out B3 (by decide) hg
  case rest =>
    obtain ⟨A, n, cap, hb2, hown2, hk2⟩ := hcut
    have n1 := hk2.cell h1 id
    have n2 := hb2.cell 1
    have hs2 := hb2.lt
    have HNB : Hid ((pv = .slice none 0 0 ∧ D.pending.length = 0) ∨ ∃ ad c, pv = .slice (some ad) D.pending.length c ∧ ∀ j u, (penCells ps)[j]? = some u → wc.drew.cell? (ad.add j) = some u) :=
      HN2.out.2.1.imp id fun ⟨ad, c, e, h⟩ => ⟨ad, c, e, fun j u hj => hk2.cell (h j u hj) id⟩
    have HB2 := Lib.hid hb2
    have HO2 := Lib.hid hown2
    have HK2 := Lib.hid hk2
    have HS2 : Hid (w.heap.size + 1 ≤ wc.drew.heap.size) := hs2
    clear hb2 hown2 hk2 hs2
    go_wp2
    go_cut [] from 30 to 41 (fun wx => ∃ S, DiskAt P wx w.heap.size D S ∧ (∀ q ∈ S, w.heap.size ≤ q) ∧ Keeps (fun _ => False) w wx)
    case first =>
      go_region_law
        (refine step_append_all (by rfl) _ _ _ (by rfl) (w.heap.size + 1) 132 iw _ 2 32 Try.underlying100 hiw hz0 hz1 hz2 rfl (by omega) (by rfl) pv (by rfl) D.pending.length (penCells ps) HN2.out.1 HNB.out HN2.out.2.2
          (by unfold maxLen; omega) (by omega) HS2.out ?_; intro A3 n3 cap3 w3 hown hgrow; have B3 := Blk.grown HB2.out.drew hgrow (by simp); have c3 := B3.cell 1; have f3 := B3.frozen 1; have HOW := Lib.hid hown; have HG := Lib.hid hgrow; clear hown hgrow)
      all_goals
        go_wp2_with fail
        go_meet
        have k3 : Keeps (fun _ => False) wc w3 := (Keeps.refl (fun _ => False) wc).grown (w' := w3) ⟨HG.out.os, HG.out.tape, HG.out.output, HG.out.size, HG.out.block⟩ (fun g e _ => by cases e)
        have k4 : Keeps (· = w.heap.size) w3 (w3.setCell ⟨w.heap.size, 1, none⟩ (.slice A3 n3 cap3)) := Keeps.set1 w3 w.heap.size 1 _
        have hend := shared_end HR.out HO.out (Nat.le_refl _) (B3.set_ 1 (.slice A3 n3 cap3)) (ownsRow_keeps (ownsRow_keeps HO2.out k3 fun _ _ => id) k4 (fun g hg e => by subst e; exact own_blk_ne HO2.out HB2.out (by decide) hg)) (ownsRow_keeps HOW.out k4 (fun g hg e => by subst e; exact own_blk_ne HOW.out B3 (by decide) hg)) ((HK2.out.trans k3 fun _ _ h => h).setCell (p := ⟨w.heap.size, 1, none⟩) (fun h => absurd h (Nat.lt_irrefl _)) _)
        obtain ⟨S, hS, hSl⟩ := hend
        exact ⟨S, hS, hSl, (HK2.out.trans k3 fun _ _ h => h).setCell (p := ⟨w.heap.size, 1, none⟩) (fun h => absurd h (Nat.lt_irrefl _)) _⟩
    case rest =>
      obtain ⟨S, hS, hSl, hk⟩ := hcut
      have HS := Lib.hid hS
      have HSL := Lib.hid hSl
      have HK := Lib.hid hk
      clear hS hSl hk
      go_wp2
      go_ret
      exact ⟨rfl, ⟨S, HS.out, HSL.out⟩, HK.out.below⟩

theorem copy_any {P : Nat → Prop} {b : Nat} {D : Dsk} {S : List Nat} (w : World) (h : DiskAt P w b D S) (hn : D.pending.length ≤ 1000000) :
    Calls Try.prog 24 #[.pointer (some ⟨b, 0, none⟩)] w fun e w' => e = .returned (.pointer (some ⟨w.heap.size, 0, none⟩)) ∧ (∃ S, DiskAt P w' w.heap.size D S ∧ ∀ q ∈ S, w.heap.size ≤ q) ∧ Below w.heap.size w w' := by
  obtain ⟨ho, g1, cur1, pv, ps, rfl, hr⟩ := h
  exact copy_rep w hr ho hn

end Go.Proofs.Ytbgiklkpinflaaa.Ref
