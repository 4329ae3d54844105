/- StoreFresh: Format makes an empty store of whatever a disk held: the law returns true for every input; the input reads as it did. No condition. -/
import Derived.Test.YtbgiklkpinflaaaGreatFrY
import Derived.Test.YtbgiklkpinflaaaGreatReG
import Derived.Deep.Slices
import Derived.Deep.Fields
import Derived.Deep.Grids
import Derived.ChangeSame
import Derived.Test.YtbgiklkpinflaaaGreatRows
import Derived.WalkKit
import Derived.ProofKit
import Derived.OpenShut
import Derived.ShutString
import Derived.ChangeOld
import Derived.Below
import Derived.Carry

namespace Go.Proofs.YtbgiklkpinflaaaGreat.Ref
open Go.RowKit Go.Shelf
open Go.Proofs.YtbgiklkpinflaaaGreat hiding DiskRep DiskAt After PenSlice Settling Crashing
attribute [local go_sem ↓] Go.wp_at_zero Go.wp_at_succ

set_option maxRecDepth 100000 in
set_option maxHeartbeats 2000000 in
theorem spoil_bad {P : Nat → Prop} {b : Nat} {D : Dsk} {S : List Nat} (w : World) (h : DiskAt P w b D S) (i k y : Int) (hbad : (D.spoil i k y).1 ≠ 0) :
    Calls Tryz.prog 97 #[.pointer (some ⟨b, 0, none⟩), .int .i64 i, .int .i64 k, .int .u8 y] w fun e w' => e = .returned (.int .i64 (D.spoil i k y).1) ∧ (D.spoil i k y).2 = D ∧ w = w' := by
  obtain ⟨ho, g1, cur1, pv, ps, rfl, hr⟩ := h
  have h0 := hr.c0
  have h3 := hr.c3
  obtain ⟨R, hR⟩ : ∃ R, R = D.spoil i k y := ⟨_, rfl⟩
  rw [← hR] at hbad ⊢
  clear hr ho
  cases hd : D.down
  · rw [hd] at h3
    by_cases h1 : i < 0
    · have t1 : decide (i < 0) = true := by simpa using h1
      have e : R = (51, D) := by rw [hR]; unfold Dsk.spoil; rw [hd, if_neg (by simp), if_pos (.inl h1)]
      rw [e]
      clear hR hbad e
      go_enter Tryz.func97, Tryz.ntmps97
      go_wp2
      go_ret
      first | exact ⟨rfl, trivial, rfl⟩ | exact ⟨rfl, rfl⟩
    · by_cases h2 : (D.blocks.length : Int) ≤ i
      · have t1 : decide (i < 0) = false := by simpa using h1
        have t2 : decide ((D.blocks.length : Int) ≤ i) = true := by simpa using h2
        have e : R = (51, D) := by rw [hR]; unfold Dsk.spoil; rw [hd, if_neg (by simp), if_pos (.inr h2)]
        rw [e]
        clear hR hbad e
        go_enter Tryz.func97, Tryz.ntmps97
        go_wp2
        go_ret
        first | exact ⟨rfl, trivial, rfl⟩ | exact ⟨rfl, rfl⟩
      · have hk : k < 0 ∨ 256 ≤ k := by
          rcases Int.lt_or_le k 0 with h | h
          · exact .inl h
          · rcases Int.lt_or_le k 256 with h5 | h5
            · exfalso
              refine hbad ?_
              rw [hR]
              unfold Dsk.spoil
              rw [hd, if_neg (by simp), if_neg (by omega), if_neg (by omega)]
            · exact .inr h5
        have t1 : decide (i < 0) = false := by simpa using h1
        have t2 : decide ((D.blocks.length : Int) ≤ i) = false := by simpa using h2
        have e : R = (2, D) := by rw [hR]; unfold Dsk.spoil; rw [hd, if_neg (by simp), if_neg (by omega), if_pos hk]
        rw [e]
        clear hR hbad e
        by_cases h5 : k < 0
        all_goals
          first
            | (have t3 : decide (k < 0) = true := by simpa using h5)
            | (have t3 : decide (k < 0) = false := by simpa using h5
               have t4 : decide ((256 : Int) ≤ k) = true := by simp; omega)
          go_enter Tryz.func97, Tryz.ntmps97
          go_wp2
          go_ret
          first | exact ⟨rfl, trivial, rfl⟩ | exact ⟨rfl, rfl⟩
  · have e : R = (50, D) := by rw [hR]; unfold Dsk.spoil; rw [hd, if_pos rfl]
    rw [e]
    rw [hd] at h3
    clear hR hbad e
    go_enter Tryz.func97, Tryz.ntmps97
    go_wp2
    go_ret
    first | exact ⟨rfl, trivial, rfl⟩ | exact ⟨rfl, rfl⟩

theorem spoil_end {P : Nat → Prop} {w W4 w5 : World} {b g1 g5 cap5 i k : Nat} {D : Dsk} {cur : Array Value} {pv pv3 : Value} {ps3 : List (Nat × Value)} {l : List UInt8} {y : Int} (hr4 : DiskRep P W4 b { D with blocks := D.blocks.set i l, pending := D.pending.filter fun p => !(p.1 == i) } g1 cur pv3 ps3) (hk5 : Keeps (fun _ => False) W4 w5)
    (hb5 : BytesAt (W4.heap.size ≤ ·) w5 (.slice (some ⟨g5, 0, none⟩) l.length cap5) l) (ho : DskOk D) (hi : i < D.blocks.length) (hd : D.down = false) (hk : k < 256) (hl : l = D.see i) (hkw : Keeps (fun q => q = b ∨ q = g1) w W4) (hpv : ∀ q, pv3.ownBlock = some q → w.heap.size ≤ q) :
    After P w ((w5.setCell ⟨g5, k, none⟩ (.int .u8 (bits BinOp.xor IntKind.u8 ((l[k]?.getD 0).toNat : Int) y))).setCell ⟨g1, i, none⟩ (.slice (some ⟨g5, 0, none⟩) l.length cap5)) b (D.spoil i k y).2 (b :: g1 :: pv.ownBlock.toList) := by
  have hsp := DiskRep.placed hr4 hk5 hb5 (i := i) (by simpa using hi) k (UInt8.ofNat (bits BinOp.xor IntKind.u8 ((l[k]?.getD 0).toNat : Int) y).toNat)
  rw [bv_ofNat (bits_lo_u8 _ _ _) (by have := bits_hi_u8 BinOp.xor ((l[k]?.getD 0).toNat : Int) y; omega)] at hsp
  have hg5 : W4.heap.size ≤ g5 := by
    obtain ⟨g', cap', cur', hv, hq, _⟩ := hb5
    injection hv with ha _ _
    injection ha with ha
    injection ha with ha _ _
    rw [ha]; exact hq
  have e : (D.spoil i k y).2 = { D with blocks := (D.blocks.set i l).set i (l.set k (UInt8.ofNat (bits BinOp.xor IntKind.u8 ((l[k]?.getD 0).toNat : Int) y).toNat)), pending := D.pending.filter fun p => !(p.1 == i) } := by
    rw [spoil_fine hd y hi hk, List.set_set, hl]
    rfl
  have hok : DskOk (D.spoil i k y).2 := by
    rw [spoil_fine hd y hi hk]
    exact Ref.filter_ok ho _ (by rw [Ref.spoilB_length, Ref.see_length ho hi])
  rw [e] at hok ⊢
  refine ⟨b :: g1 :: pv3.ownBlock.toList, ⟨hok, g1, _, pv3, ps3, rfl, hsp⟩, fun q hq => ?_, ?_⟩
  · simp only [List.mem_cons, Option.mem_toList] at hq
    rcases hq with h | h | h
    · exact .inl (by simp [h])
    · exact .inl (by simp [h])
    · exact .inr (hpv q h)
  · have k1 : Keeps (fun q => q ∈ b :: g1 :: pv.ownBlock.toList) w W4 := hkw.weaken fun q _ h => by
      rcases h with h | h <;> simp [h]
    have hs := hkw.size
    exact ((k1.trans hk5 (fun _ _ h => h.elim)).setCell (p := ⟨g5, k, none⟩) (fun h => by have h : g5 < w.heap.size := h; omega) _).setCell (p := ⟨g1, i, none⟩) (fun _ => by simp) _

set_option maxRecDepth 100000 in
set_option maxHeartbeats 4000000 in
theorem spoil_good {P : Nat → Prop} {b : Nat} {D : Dsk} {g1 : Nat} {cur1 : Array Value} {pv : Value} {ps : List (Nat × Value)} (w : World) (h : DiskRep P w b D g1 cur1 pv ps) (ho : DskOk D) (hd : D.down = false) (hn : D.pending.length ≤ 1000000)
    (i k : Nat) (y : Int) (hi : i < D.blocks.length) (hk : k < 256) :
    Calls Tryz.prog 97 #[.pointer (some ⟨b, 0, none⟩), .int .i64 (i : Int), .int .i64 (k : Int), .int .u8 y] w fun e w' => e = .returned (.int .i64 0) ∧ After P w w' b (D.spoil i k y).2 (b :: g1 :: pv.ownBlock.toList) := by
  have hf := ho.few
  have h3 := h.c3
  rw [hd] at h3
  have h0 := h.c0
  have h1 := h.c1
  obtain ⟨A1, c1, rfl, hp1⟩ := PenSlice.of_own h.own h.pslen
  have hpl := h.pslen
  have hpsr : ps.length ≤ 1000000 := by omega
  obtain ⟨iu, hiu, uz0, uz1, uz2⟩ := info_parts Tryz.infoU8
  obtain ⟨iw, hiw, hz0, hz1, hz2⟩ := info_parts Tryz.infoNote
  have t1 : decide ((i : Int) < 0) = false := by simp
  have t2 : decide ((D.blocks.length : Int) ≤ (i : Int)) = false := by simp; omega
  have t3 : decide ((k : Int) < 0) = false := by simp
  have t4 : decide ((256 : Int) ≤ (k : Int)) = false := by simp; omega
  have t5 : decide (D.blocks.length ≤ i) = false := by simp; omega
  have hblk := h.blks
  have HR := Lib.hid h
  have HO := Lib.hid ho
  have HP := Lib.hid hp1
  have HPL := Lib.hid hpl
  have HBLK := Lib.hid hblk
  clear hp1 h ho hpl hblk
  go_enter Tryz.func97, Tryz.ntmps97
  go_wp2
  go_loopw [9, 11, 39] (fun v _ x wr => ∃ j : Nat, j ≤ ps.length ∧ x = .int .i64 j ∧ Spoiling P w b D i g1 cur1 (.slice A1 ps.length c1) ps j v wr) (fun _ _ x _ => ps.length - (intOf x).toNat)
  case atStart => exact ⟨0, Nat.zero_le _, rfl, Spoiling.start HR.out⟩
  case round =>
    obtain ⟨j, hj, rfl, hset⟩ := hrel
    by_cases hlt : j < ps.length
    · obtain ⟨gp, rfl, _, hpen⟩ := HP.out (by omega)
      have hcr := hset.1
      obtain ⟨q1, q2⟩ := hcr.pen_at hlt rfl
      obtain ⟨cur, hcs, hr, hkk⟩ := id hcr
      obtain ⟨l, hpk, hB⟩ := hr.pen_at j hlt
      obtain ⟨gx, cx, _, hvx, _⟩ := id hB
      have hpk' : D.pending[j]? = some ((pen ps j).1, l) := hpk
      have q3 := hr.c0
      simp only [settleIf_length] at q3
      have q4 := hr.hg.frozen i
      obtain ⟨go, no, co, q5⟩ := hcr.has hi
      have HX := Lib.hid hvx
      rw [hvx] at q2
      have q3a : ∀ o, (wr.alloc o).cell? ⟨b, 0, none⟩ = some (.slice (some ⟨g1, 0, none⟩) D.blocks.length cur.size) := fun o => Lib.cell?_alloc_some _ q3
      have q5a : ∀ o, (wr.alloc o).cell? ⟨g1, i, none⟩ = some (.slice go no co) := fun o => Lib.cell?_alloc_some _ q5
      have q4a : ∀ o, (wr.alloc o).frozen? ⟨g1, i, none⟩ = false := fun o => by rw [World.frozen?_alloc_old _ _ _ (Nat.ne_of_lt hr.hg.lt)]; exact q4
      have HS := Lib.hid hset
      have tk : decide ((j : Int) < (ps.length : Int)) = true := by simp; omega
      have hht : hits D i j = ((pen ps j).1 == i) := by unfold hits; rw [hpk']; rfl
      have HHT := Lib.hid hht
      have hkl := keptTo_le ps i j
      have hsz : w.heap.size ≤ wr.heap.size := hkk.size
      clear hset hpk hpk' hvx hB hr hkk hcs hpen hht hcr
      by_cases he : (pen ps j).1 = i
      · have he2 : (((pen ps j).1 : Int) == (i : Int)) = true := by simp [he]
        have hf2 : hits D i j = true := by rw [HHT.out]; simpa using he
        have HE := Lib.hid he
        clear he
        go_wp2
        go_region
        all_goals
          go_wp2
          go_roundw
          case rel =>
            have hst := HS.out.hit hf2 hlt HE.out HO.out (.cells #[.int .i64 ((pen ps j).1 : Int), (pen ps j).2] 178)
            rw [HX.out] at hst
            first
              | exact ⟨j + 1, by omega, by go_num, hst⟩
              | (rw [HE.out] at hst; exact ⟨j + 1, by omega, by go_num, hst⟩)
              | (rw [HE.out]; exact ⟨j + 1, by omega, by go_num, hst⟩)
          case measure => simp [intOf]; omega
      · have he2 : (((pen ps j).1 : Int) == (i : Int)) = false := by rw [beq_eq_false_iff_ne]; omega
        have hf2 : hits D i j = false := by rw [HHT.out]; simpa using he
        have HE := Lib.hid he
        clear he
        obtain ⟨ix, hix⟩ : ∃ ix : Nat, ix = (pen ps j).1 := ⟨_, rfl⟩
        rw [← hix] at q1 he2
        have HIX := Lib.hid hix
        clear hix
        go_wp2_with (at_builtin; refine wpList_append_lies _ rfl _ _ 147 rfl w.heap.size 178 iw (.agg #[.int .i64 0, .slice none 0 0]) 2 32 Tryz.underlying147 hiw hz0 hz1 hz2 rfl (by decide) _ _ _ rfl ((HS.out.2.alloc _).alloc _) ⟨wr.heap.size + 1, 0, none⟩ 1 1 [.int .i64 (ix : Int), .slice (some ⟨gx, 0, none⟩) l.length cx] rfl rfl ?c1 ?c2 (by decide) ?c3 ?c4 ?c5 (wr.heap.size + 2) ?c8 ?_)
        case c1 =>
          have e : (wr.alloc (.cells #[.int .i64 (ix : Int), .slice (some ⟨gx, 0, none⟩) l.length cx] 178)).heap.size = wr.heap.size + 1 := World.size_alloc _ _
          have := World.news_of_block (heap_alloc_new (wr.alloc (.cells #[.int .i64 (ix : Int), .slice (some ⟨gx, 0, none⟩) l.length cx] 178)) (.cells #[.int .i64 (ix : Int), .slice (some ⟨gx, 0, none⟩) l.length cx] 178))
          rw [e] at this
          exact this
        case c2 => simp [Value.oneCell']
        case c3 => unfold maxLen; omega
        case c4 => omega
        case c5 => simp; omega
        case c8 => simp
        intro gg cap2 w3 hown3 hgrow hat hlt3
        have HW3 := Lib.hid hown3
        have HG3 := Lib.hid hgrow
        clear hown3 hgrow hat
        go_wp2
        go_roundw
        case rel =>
          refine ⟨j + 1, by omega, by go_num, HS.out.other HBLK.out hf2 hlt HE.out ?_ HG3.out⟩
          have := HW3.out
          rw [HIX.out, ← HX.out] at this
          exact this
        case measure => simp [intOf]; omega
    · obtain rfl : j = ps.length := by omega
      have tk : decide ((ps.length : Int) < ps.length) = false := by simp
      obtain ⟨cur, hst, hkst⟩ := hset.stored hi
      obtain ⟨zv, hzv⟩ : ∃ v, wr.cell? ⟨b, 1, none⟩ = some v := by
        obtain ⟨⟨_, _, hr, _⟩, _⟩ := hset
        exact ⟨_, hr.c1⟩
      have hzf : wr.frozen? ⟨b, 1, none⟩ = false := by
        obtain ⟨⟨_, _, hr, _⟩, _⟩ := hset
        exact hr.hb.frozen 1
      obtain ⟨n9, A9, c9, rfl, hp9⟩ : ∃ n A c, u9 = .slice A n c ∧ (∀ q, u9.ownBlock = some q → w.heap.size ≤ q) := by
        rcases hset.2.2 with ⟨e, _⟩ | ⟨g, cap, _, e, hb, _⟩
        · exact ⟨_, _, _, e, fun q hq => by rw [e] at hq; simp [Value.ownBlock] at hq⟩
        · exact ⟨_, _, _, e, fun q hq => by rw [e] at hq; simp [Value.ownBlock] at hq; omega⟩
      have HP9 := Lib.hid hp9
      have HST := Lib.hid hst
      have HKST := Lib.hid hkst
      clear hset hst hkst hp9
      obtain ⟨W4, hW4⟩ : ∃ W4, W4 = wr.setCell ⟨b, 1, none⟩ (.slice A9 n9 c9) := ⟨_, rfl⟩
      have hr4 := HST.out
      rw [← hW4] at hr4
      obtain ⟨l4, hl4⟩ : ∃ l4, l4 = D.see i := ⟨_, rfl⟩
      rw [← hl4] at hr4
      obtain ⟨vq, hvq, hBq⟩ := hr4.bl i l4 (by rw [List.getElem?_set_self hi])
      obtain ⟨gq, cq, curq, rfl, _, _, _, hcq⟩ := hBq.cells
      have q40a : ∀ o, (W4.alloc o).cell? ⟨b, 0, none⟩ = some (.slice (some ⟨g1, 0, none⟩) D.blocks.length cur.size) := fun o => Lib.cell?_alloc_some _ (by have := hr4.c0; simpa using this)
      have q4ga : ∀ o, (W4.alloc o).cell? ⟨g1, i, none⟩ = some (.slice (some ⟨gq, 0, none⟩) l4.length cq) := fun o => Lib.cell?_alloc_some _ ((hr4.hg.cell i).trans hvq)
      have HSL : Hid (l4.length = 256) := by have := see_length HO.out hi; rw [← hl4] at this; exact this
      have hl2 : l4.length ≤ 70368744177664 := by rw [HSL.out]; decide
      have hl0 : 0 < l4.length := by rw [HSL.out]; decide
      have HL4 := Lib.hid hl4
      have HCQ : Hid (∀ o, Cells (W4.alloc o) gq 0 (l4.map bv)) := fun o => Cells.keeps hcq (F := fun _ => False) ((Keeps.refl _ W4).alloc o) id
      have hle := hr4.le
      have hle2 : i < cur.size := by simp only [List.length_set] at hle; omega
      have HR4 := Lib.hid hr4
      clear hl4 hr4 hBq hcq hvq hle
      have hgo : ∀ u : World, u = wr.setCell ⟨b, 1, none⟩ (.slice A9 n9 c9) → u = W4 := fun u e => by rw [hW4]; exact e
      have HGO := Lib.hid hgo
      have HW4 := Lib.hid hW4
      clear hgo hW4
      go_upto_region 16 with fail
      rw [← HW4.out]
      go_wp2_with (at_builtin; refine wpList_append_lies _ rfl _ _ 89 rfl W4.heap.size 5 iu (.int .u8 0) 1 1 Tryz.underlying89 hiu uz0 uz1 uz2 rfl (by decide) _ _ _ rfl (empty_own W4) ⟨gq, 0, none⟩ l4.length cq (l4.map bv) rfl ?c0 ?c1 (oneCell_bv _) ?c2 ?c3 ?c4 ?c5 (W4.heap.size + 1) ?c8 ?_)
      case c0 => simp
      case c1 => exact cells_add (HCQ.out _)
      case c2 => exact hl0
      case c3 => unfold maxLen; omega
      case c4 => omega
      case c5 => simp
      case c8 => simp
      intro g5 cap5 w5 hown5 hgrow5 _ _
      have hB5 : BytesAt (W4.heap.size ≤ ·) w5 (.slice (some ⟨g5, 0, none⟩) l4.length cap5) l4 := own_bytes (by simpa using hown5) hl0
      have hk5 : Keeps (fun _ => False) W4 w5 := ((Keeps.refl (fun _ => False) W4).alloc _).grown hgrow5 fun g e hg => by
        simp [Value.ownBlock] at e
        omega
      have HEND := Lib.hid (spoil_end (y := y) (pv := .slice A1 ps.length c1) HR4.out hk5 hB5 HO.out hi hd hk HL4.out (by have := HKST.out; rw [← HW4.out] at this; exact this) HP9.out)
      have hr4 := HR4.out
      obtain ⟨g5', cap5', cur5, hv5, hq5, hb5', _, _, hs5, ht5⟩ := hB5
      injection hv5 with ha _ hc5
      injection ha with ha
      injection ha with ha _ _
      subst ha hc5
      have hk4 : k < l4.length := by rw [HSL.out]; exact hk
      obtain ⟨x8, hx8⟩ : ∃ x : Int, x = ((l4[k]?.getD 0).toNat : Int) := ⟨_, rfl⟩
      rw [← hx8] at HEND
      have sk : w5.cell? ⟨g5, k, none⟩ = some (.int .u8 x8) := (hb5'.cell k).trans (by
        rw [hx8]
        have := congrArg (fun z => z[k]?) ht5
        simp only [List.getElem?_take, if_pos hk4, List.getElem?_map, List.getElem?_eq_getElem hk4, Array.getElem?_toList] at this
        rw [this, List.getElem?_eq_getElem hk4]
        rfl)
      have sf := hb5'.frozen k
      have hg5b : g5 ≠ b := fun e => by have := hr4.hb.lt; have hq5 : W4.heap.size ≤ g5 := hq5; omega
      have hg5g : g5 ≠ g1 := fun e => by have := hr4.hg.lt; have hq5 : W4.heap.size ≤ g5 := hq5; omega
      have s0 : ∀ u, (w5.setCell ⟨g5, k, none⟩ u).cell? ⟨b, 0, none⟩ = some (.slice (some ⟨g1, 0, none⟩) D.blocks.length cur.size) := fun u => by
        have := ((hr4.hb.keeps hk5 id).far (p := ⟨g5, k, none⟩) (Ne.symm hg5b) u).cell 0
        simpa using this
      have sg : ∀ u, ∃ v, (w5.setCell ⟨g5, k, none⟩ u).cell? ⟨g1, i, none⟩ = some v := fun u => ⟨_, (((hr4.hg.keeps hk5 id).far (p := ⟨g5, k, none⟩) (Ne.symm hg5g) u).cell i).trans (Array.getElem?_eq_getElem hle2)⟩
      have sgf : ∀ u, (w5.setCell ⟨g5, k, none⟩ u).frozen? ⟨g1, i, none⟩ = false := fun u => ((hr4.hg.keeps hk5 id).far (p := ⟨g5, k, none⟩) (Ne.symm hg5g) u).frozen i
      obtain ⟨vg, sg⟩ := sg (.int .u8 (bits BinOp.xor IntKind.u8 x8 y))
      clear hx8 hown5 hgrow5 hk5 hb5' hr4 hs5 ht5
      go_wp2
      go_ret
      exact ⟨rfl, HEND.out⟩

end Go.Proofs.YtbgiklkpinflaaaGreat.Ref

namespace Go.Proofs.YtbgiklkpinflaaaGreat
open Go.RowKit Go.Shelf
attribute [local go_sem ↓] Go.wp_at_zero Go.wp_at_succ

/-- The cells of a call for a disk. -/
def actCells (kd : Int) (i t : Int) (y : Int) (sh : Bool) (kv : Value) : Array Value := #[.int .u8 kd, .int .i64 i, .int .i64 t, .int .u8 y, .bool sh, kv]

/-- Bytes are being set in the block behind the call's copy. -/
def Filling (w : World) (A : Array Value) (n : Nat) (wr : World) : Prop :=
  (∃ l : List UInt8, l.length = n ∧ Blk wr (w.heap.size + 1) 5 (l.map bv).toArray) ∧ Blk wr w.heap.size 85 A ∧ Below w.heap.size w wr
theorem Filling.set {w wr : World} {A : Array Value} {n k : Nat} (h : Filling w A n wr) {e : Int} (h0 : 0 ≤ e) (h1 : e < 256) : Filling w A n (wr.setCell ⟨w.heap.size + 1, k, none⟩ (.int .u8 e)) := by
  obtain ⟨⟨l, hl, hb⟩, hA, hB⟩ := h
  refine ⟨⟨l.set k (UInt8.ofNat e.toNat), by rw [List.length_set]; exact hl, ?_⟩, hA.far (by simp) _, hB.setCell (p := ⟨w.heap.size + 1, k, none⟩) (by simp) _⟩
  have := hb.set_ k (.int .u8 e)
  rw [← bv_ofNat h0 h1] at this ⊢
  rw [List.map_set]
  simpa using this
theorem Filling.cell {w wr : World} {A : Array Value} {n k : Nat} (h : Filling w A n wr) (hk : k < n) : ∃ v, wr.cell? ⟨w.heap.size + 1, k, none⟩ = some v := by
  obtain ⟨⟨l, hl, hb⟩, _, _⟩ := h
  exact ⟨_, (hb.cell k).trans (Array.getElem?_eq_getElem (by simpa [hl] using hk))⟩
theorem Filling.frozen {w wr : World} {A : Array Value} {n : Nat} (h : Filling w A n wr) (k : Nat) : wr.frozen? ⟨w.heap.size + 1, k, none⟩ = false := by
  obtain ⟨⟨l, hl, hb⟩, _, _⟩ := h
  exact hb.frozen k
theorem Filling.start (w : World) (A : Array Value) (n : Nat) : Filling w A n ((w.alloc (.cells A 85)).alloc (.cells ((List.replicate n (0 : UInt8)).map bv).toArray 5)) := by
  refine ⟨⟨List.replicate n 0, List.length_replicate, ?_⟩, (Blk.new w _ A).alloc _, ((Below.refl _ w).alloc (Nat.le_refl _) _).alloc (by simp) _⟩
  have := Blk.new (w.alloc (.cells A 85)) 5 ((List.replicate n (0 : UInt8)).map bv).toArray
  rwa [World.size_alloc] at this
theorem Filling.end_ {w wr : World} {A : Array Value} {n : Nat} (h : Filling w A n wr) (hn : n ≤ 1000000) : ∃ l : List UInt8, l.length = n ∧ BytesAt (w.heap.size ≤ ·) wr (.slice (some ⟨w.heap.size + 1, 0, none⟩) n n) l := by
  obtain ⟨⟨l, hl, hb⟩, _, _⟩ := h
  refine ⟨l, hl, _, n, _, by rw [hl], by simp, hb, by omega, by unfold maxLen; omega, by simp [hl], ?_⟩
  show (l.map bv).take l.length = l.map bv
  exact List.take_of_length_le (by rw [List.length_map]; exact Nat.le_refl _)

set_option maxRecDepth 100000 in
set_option maxHeartbeats 4000000 in
theorem blockOf_calls (w : World) (kd i0 t y : Int) (sh : Bool) (kv : Value) :
    Calls Tryz.prog 89 #[.agg (actCells kd i0 t y sh kv)] w fun e w' => ∃ v l, e = .returned v ∧ BytesAt (w.heap.size ≤ ·) w' v l ∧ Below w.heap.size w w' := by
  obtain ⟨m, hm, hm2⟩ : ∃ m : Nat, m = (if sh then 255 else 256) ∧ m ≤ 256 := ⟨_, rfl, by split <;> omega⟩
  obtain ⟨L, hL⟩ : ∃ L : Array Value, L = ((List.replicate m (0 : UInt8)).map bv).toArray := ⟨_, rfl⟩
  have hmk : ∀ w : World, (Instr.makeSlice 89 (.int .i64 (m : Int)) (.int .i64 (m : Int))).run Tryz.prog w = .ok (.slice (some ⟨w.heap.size, 0, none⟩) m m) (w.alloc (.cells L 5)) := fun w => by rw [hL]; exact Tryz.makeU8 m (by omega) w
  have HL := Lib.hid hL
  clear hL
  cases sh
  · obtain rfl : m = 256 := by simpa using hm
    have hmk2 : ∀ w : World, (Instr.makeSlice 89 (.int .i64 256) (.int .i64 256)).run Tryz.prog w = .ok (.slice (some ⟨w.heap.size, 0, none⟩) 256 256) (w.alloc (.cells L 5)) := hmk
    clear hmk hm
    unfold actCells
    go_enter Tryz.func89, Tryz.ntmps89
    go_wp2
    go_loopw [5, 14] (fun _ i wr => ∃ k : Nat, k ≤ 256 ∧ i = .int .i64 k ∧ Filling w #[.int .u8 kd, .int .i64 i0, .int .i64 t, .int .u8 y, .bool false, kv] 256 wr) (fun _ i _ => 256 - (intOf i).toNat)
    case atStart =>
      refine ⟨0, Nat.zero_le _, rfl, ?_⟩
      rw [HL.out]
      exact Filling.start w _ 256
    case round =>
      obtain ⟨k, hk, rfl, hM⟩ := hrel
      by_cases hlt : k < 256
      · have tk : decide ((k : Int) < 256) = true := by simp; omega
        have q0 : wr.cell? ⟨w.heap.size, 3, none⟩ = some (.int .u8 y) := hM.2.1.cell 3
        have q1 : wr.cell? ⟨w.heap.size, 2, none⟩ = some (.int .i64 t) := hM.2.1.cell 2
        obtain ⟨v, q2⟩ := hM.cell hlt
        have q3 := hM.frozen k
        have HM := Lib.hid hM
        clear hM
        go_wp2
        go_roundw
        case rel =>
          refine ⟨k + 1, by omega, by go_num, HM.out.set ?_ ?_⟩
          · exact Int.emod_nonneg _ (by decide)
          · exact Int.emod_lt_of_pos _ (by decide)
        case measure => simp [intOf]; omega
      · obtain rfl : k = 256 := by omega
        have HM := Lib.hid hM
        clear hM
        go_wp2
        go_ret
        obtain ⟨l, hl, hB⟩ := HM.out.end_ (by omega)
        exact ⟨_, l, rfl, hB, HM.out.2.2⟩
  · obtain rfl : m = 255 := by simpa using hm
    have hmk2 : ∀ w : World, (Instr.makeSlice 89 (.int .i64 255) (.int .i64 255)).run Tryz.prog w = .ok (.slice (some ⟨w.heap.size, 0, none⟩) 255 255) (w.alloc (.cells L 5)) := hmk
    clear hmk hm
    unfold actCells
    go_enter Tryz.func89, Tryz.ntmps89
    go_wp2
    go_loopw [5, 14] (fun _ i wr => ∃ k : Nat, k ≤ 255 ∧ i = .int .i64 k ∧ Filling w #[.int .u8 kd, .int .i64 i0, .int .i64 t, .int .u8 y, .bool true, kv] 255 wr) (fun _ i _ => 255 - (intOf i).toNat)
    case atStart =>
      refine ⟨0, Nat.zero_le _, rfl, ?_⟩
      rw [HL.out]
      exact Filling.start w _ 255
    case round =>
      obtain ⟨k, hk, rfl, hM⟩ := hrel
      by_cases hlt : k < 255
      · have tk : decide ((k : Int) < 255) = true := by simp; omega
        have q0 : wr.cell? ⟨w.heap.size, 3, none⟩ = some (.int .u8 y) := hM.2.1.cell 3
        have q1 : wr.cell? ⟨w.heap.size, 2, none⟩ = some (.int .i64 t) := hM.2.1.cell 2
        obtain ⟨v, q2⟩ := hM.cell hlt
        have q3 := hM.frozen k
        have HM := Lib.hid hM
        clear hM
        go_wp2
        go_roundw
        case rel =>
          refine ⟨k + 1, by omega, by go_num, HM.out.set ?_ ?_⟩
          · exact Int.emod_nonneg _ (by decide)
          · exact Int.emod_lt_of_pos _ (by decide)
        case measure => simp [intOf]; omega
      · obtain rfl : k = 255 := by omega
        have HM := Lib.hid hM
        clear hM
        go_wp2
        go_ret
        obtain ⟨l, hl, hB⟩ := HM.out.end_ (by omega)
        exact ⟨_, l, rfl, hB, HM.out.2.2⟩

end Go.Proofs.YtbgiklkpinflaaaGreat

namespace Go.Proofs.YtbgiklkpinflaaaGreat
open Go.RowKit Go.Shelf
theorem Got.below_ {B : Nat} {w w' : World} {v : Value} {l : List UInt8} (h : Got B w v l) (hb : Below w.heap.size w w') : Got B w' v l :=
  h.imp id fun h => h.keeps (F := fun _ => False) (Keeps.of_below hb) fun _ _ h => h.elim
end Go.Proofs.YtbgiklkpinflaaaGreat

namespace Go.Proofs.YtbgiklkpinflaaaGreat
open Go.RowKit Go.Shelf
attribute [local go_sem ↓] Go.wp_at_zero Go.wp_at_succ

/-- A disk of N blocks that few calls have reached. -/
def Lim (N n : Nat) (D : Dsk) : Prop := D.blocks.length = N ∧ D.life ≤ n ∧ D.pending.length ≤ n
/-- The disk at d and the reference's disk at r lie apart; S: the blocks that they may write. -/
def Loose (P : Nat → Prop) (w : World) (d r N n : Nat) (S : List Nat) : Prop :=
  ∃ D D2 Sd Sr, S = Sd ++ Sr ∧ (∀ q ∈ Sd, q ∉ Sr) ∧ DiskAt P w d D Sd ∧ Ref.DiskAt P w r D2 Sr ∧ Lim N n D ∧ Lim N n D2
def LooseAfter (P : Nat → Prop) (w w' : World) (d r N n : Nat) (S : List Nat) : Prop :=
  ∃ S', Loose P w' d r N n S' ∧ (∀ q ∈ S', q ∈ S ∨ w.heap.size ≤ q) ∧ Keeps (· ∈ S) w w'

section
variable {P : Nat → Prop} {w w1 w2 : World} {d r : Nat} {D D2 E E2 : Dsk} {Sd Sr : List Nat} {N : Nat}
/-- The program's disk has turned; the reference's has not. -/
theorem After.ref (h : After P w w1 d E Sd) (hd : DiskAt P w d D Sd) (hr : Ref.DiskAt P w r D2 Sr) (hne : ∀ q ∈ Sd, q ∉ Sr) : Ref.DiskAt P w1 r D2 Sr :=
  let ⟨_, _, _, k⟩ := h
  hr.keeps k (fun g hg hg2 => hne g hg2 hg) fun g cs hg _ hb => hd.no (by decide) (by decide) (by decide) hg hb
/-- Then the reference's disk has turned too. -/
theorem loose_after {n : Nat} (h1 : After P w w1 d E Sd) (_hd : DiskAt P w d D Sd) (hr : Ref.DiskAt P w1 r D2 Sr) (hrl : ∀ q ∈ Sr, q < w.heap.size) (hne : ∀ q ∈ Sd, q ∉ Sr) (h2 : Ref.After P w1 w2 r E2 Sr) (hl : Lim N n E) (hp : Lim N n E2) : LooseAfter P w w2 d r N n (Sd ++ Sr) := by
  obtain ⟨S1, a1, a2, a3⟩ := h1
  obtain ⟨S2, b1, b2, b3⟩ := h2
  have hs := a3.size
  have h12 : ∀ q ∈ S1, q ∉ Sr := fun q hq hq2 => by
    rcases a2 q hq with h | h
    · exact hne q h hq2
    · have := hrl q hq2; omega
  have hS1 : ∀ q ∈ S1, q < w1.heap.size := fun q hq => by
    obtain ⟨_, _, hb, _⟩ := a1.lt q hq
    exact hb.lt
  have h1' : DiskAt P w2 d E S1 := a1.keeps b3 (fun g hg hg2 => h12 g hg hg2) fun g cs hg _ hb => hr.no (by decide) (by decide) (by decide) hg hb
  refine ⟨S1 ++ S2, ⟨E, E2, S1, S2, rfl, fun q hq hq2 => ?_, h1', b1, hl, hp⟩, fun q hq => ?_, (a3.weaken fun _ _ h => List.mem_append_left _ h).trans b3 fun _ _ h => List.mem_append_right _ h⟩
  · rcases b2 q hq2 with h | h
    · exact h12 q hq h
    · have := hS1 q hq; omega
  · rcases List.mem_append.1 hq with h | h
    · rcases a2 q h with h | h
      · exact .inl (List.mem_append_left _ h)
      · exact .inr h
    · rcases b2 q h with h | h
      · exact .inl (List.mem_append_right _ h)
      · exact .inr (by omega)
/-- Only new memory has been made ahead. -/
theorem LooseAfter.behind {n : Nat} {S : List Nat} (hb : Below w.heap.size w w1) (h : LooseAfter P w1 w2 d r N n S) : LooseAfter P w w2 d r N n S := by
  obtain ⟨S', a, c, k⟩ := h
  exact ⟨S', a, fun q hq => (c q hq).imp id fun h => Nat.le_trans hb.size h, (Keeps.of_below (F := fun _ => False) hb).weaken (F := (· ∈ S)) (fun _ _ h => h.elim) |>.trans k fun _ _ h => h⟩
theorem Lim.more {n m : Nat} (h : Lim N n D) (hm : n ≤ m) : Lim N m D := ⟨h.1, Nat.le_trans h.2.1 hm, Nat.le_trans h.2.2 hm⟩
theorem Loose.below {n : Nat} {S : List Nat} (h : Loose P w d r N n S) (hb : Below w.heap.size w w1) : Loose P w1 d r N n S := by
  obtain ⟨D, D2, Sd, Sr, a, c, d1, d2, e⟩ := h
  exact ⟨D, D2, Sd, Sr, a, c, d1.below hb, d2.below hb, e⟩
theorem Loose.refl {n : Nat} {S : List Nat} (h : Loose P w d r N n S) (hb : Below w.heap.size w w1) : LooseAfter P w w1 d r N n S :=
  ⟨S, h.below hb, fun _ h => .inl h, (Keeps.of_below (F := fun _ => False) hb).weaken fun _ _ h => h.elim⟩
theorem Loose.mono {n m : Nat} {S : List Nat} (h : Loose P w d r N n S) (hm : n ≤ m) : Loose P w d r N m S := by
  obtain ⟨D, D2, Sd, Sr, a, c, d1, d2, e1, e2⟩ := h
  exact ⟨D, D2, Sd, Sr, a, c, d1, d2, e1.more hm, e2.more hm⟩
end
theorem Lim.write {D : Dsk} {N n : Nat} (h : Lim N n D) (i : Int) (l : List UInt8) : Lim N (n + 1) (D.write i l).2 := by
  obtain ⟨h0, h1, h2⟩ := h
  have a := D.fails_life
  have c := D.fails_pending
  have e := D.fails_blocks
  unfold Dsk.write Lim
  split
  · simp only; omega
  · split
    · simp only; omega
    · split
      · simp only [c, e]; omega
      · simp only [c, e, List.length_append, List.length_singleton]; omega
theorem Lim.sync {D : Dsk} {N n : Nat} (h : Lim N n D) : Lim N (n + 1) D.sync.2 := by
  obtain ⟨h0, h1, h2⟩ := h
  have a := D.fails_life
  have c := D.fails_pending
  have e := D.fails_blocks
  unfold Dsk.sync Lim
  split
  · simp only; omega
  · split
    · simp only [c, e]; omega
    · simp only [settle_length, List.length_nil]; omega
theorem Lim.crash {D : Dsk} {N n : Nat} (h : Lim N n D) (f : Nat → Bool) : Lim N (n + 1) (D.crash f) := by
  obtain ⟨h0, h1, h2⟩ := h
  unfold Dsk.crash Lim
  simp only [settleIf_length, List.length_nil]
  omega
theorem Lim.arm {D : Dsk} {N n : Nat} (h : Lim N n D) (t : Int) : Lim N (n + 1) (D.arm t) := ⟨h.1, Nat.le_succ_of_le h.2.1, Nat.le_succ_of_le h.2.2⟩
theorem Lim.spoil {D : Dsk} {N n : Nat} (h : Lim N n D) (i k y : Int) : Lim N (n + 1) (D.spoil i k y).2 := by
  obtain ⟨h0, h1, h2⟩ := h
  unfold Dsk.spoil Lim
  have := List.length_filter_le (fun p : Nat × List UInt8 => !(p.1 == i.toNat)) D.pending
  split
  · simp only; omega
  · split
    · simp only; omega
    · split
      · simp only; omega
      · simp only [List.length_set]; omega

set_option maxRecDepth 100000 in
set_option maxHeartbeats 4000000 in
theorem same_loose {w : World} {v1 v2 : Value} {l1 l2 : List UInt8} (h1 : (convert 89 9 v1).run Tryz.prog w = .ok (.string ⟨l1.toArray⟩) w) (h2 : (convert 89 9 v2).run Tryz.prog w = .ok (.string ⟨l2.toArray⟩) w) :
    Calls Tryz.prog 58 #[v1, v2] w fun e w' => (∃ b, e = .returned (.bool b)) ∧ Below w.heap.size w w' := by
  obtain ⟨z1, hz1⟩ : ∃ z : ByteArray, z = ⟨l1.toArray⟩ := ⟨_, rfl⟩
  obtain ⟨z2, hz2⟩ : ∃ z : ByteArray, z = ⟨l2.toArray⟩ := ⟨_, rfl⟩
  rw [← hz1] at h1
  rw [← hz2] at h2
  clear hz1 hz2
  go_enter Tryz.func58, Tryz.ntmps58
  go_wp2
  go_ret
  exact ⟨⟨_, rfl⟩, Below.refl _ _⟩

end Go.Proofs.YtbgiklkpinflaaaGreat


namespace Go.Proofs.YtbgiklkpinflaaaGreat
open Go.RowKit Go.Shelf

/-- A call of the program's disk, and then one of the reference's. -/
def TwoCalls (P : Nat → Prop) (w : World) (d r : Nat) (Sd Sr : List Nat) (f1 f2 : FuncId) (a1 a2 : Array Value) (ret ret2 : Value) (E E2 : Dsk) : Prop :=
  (Calls Tryz.prog f1 a1 w fun e w' => e = .returned ret ∧ After P w w' d E Sd) ∧ ∀ w3, After P w w3 d E Sd → Calls Tryz.prog f2 a2 w3 fun e w' => e = .returned ret2 ∧ Ref.After P w3 w' r E2 Sr

theorem KeepAt.keeps {w w1 : World} {S T : List Nat} {v : Value} {ks : List Bool} (h : KeepAt w (S ++ T) v ks) (k : Keeps (· ∈ S) w w1) : KeepAt w1 T v ks := by
  obtain ⟨A, c, e, hl, hk⟩ := h
  refine ⟨A, c, e, hl, fun j x hj => ?_⟩
  obtain ⟨a, e1, e2, e3⟩ := hk j x hj
  exact ⟨a, e1, fun hm => e2 (List.mem_append_right _ hm), k.cell e3 (by rw [add_block]; exact fun hm => e2 (List.mem_append_left _ hm))⟩

section
variable {P : Nat → Prop} {w : World} {d r : Nat} {D D2 : Dsk} {Sd Sr : List Nat} {N n : Nat}
theorem two_write {Q : Nat → Prop} (hd : DiskAt P w d D Sd) (hr : Ref.DiskAt P w r D2 Sr) (hne : ∀ q ∈ Sd, q ∉ Sr) (hl : D.life ≤ 1000000 ∧ D2.life ≤ 1000000) (hp : D.pending.length ≤ 1000000 ∧ D2.pending.length ≤ 1000000) (i : Int) {v : Value} {l : List UInt8} (hB : BytesAt Q w v l) :
    TwoCalls P w d r Sd Sr 74 90 #[.pointer (some ⟨d, 0, none⟩), .int .i64 i, v] #[.pointer (some ⟨r, 0, none⟩), .int .i64 i, v] (.int .i64 (D.write i l).1) (.int .i64 (D2.write i l).1) (D.write i l).2 (D2.write i l).2 := by
  refine ⟨write_any w hd (by omega) (by omega) i v l ?_, fun w3 h3 => Ref.write_any w3 (h3.ref hd hr hne) (by omega) (by omega) i v l (h3.bytes hd hB)⟩
  obtain ⟨g, cap, cur, rfl, _, _, hb, hc⟩ := hB.cells
  exact ⟨_, cap, rfl, fun _ => ⟨g, 0, rfl, hc, fun hm => hd.no (by decide) (by decide) (by decide) hm hb⟩⟩
theorem two_sync (hd : DiskAt P w d D Sd) (hr : Ref.DiskAt P w r D2 Sr) (hne : ∀ q ∈ Sd, q ∉ Sr) (hl : D.life ≤ 1000000 ∧ D2.life ≤ 1000000) (hp : D.pending.length ≤ 1000000 ∧ D2.pending.length ≤ 1000000) :
    TwoCalls P w d r Sd Sr 93 94 #[.pointer (some ⟨d, 0, none⟩)] #[.pointer (some ⟨r, 0, none⟩)] (.int .i64 D.sync.1) (.int .i64 D2.sync.1) D.sync.2 D2.sync.2 :=
  ⟨sync_any w hd (by omega) (by omega), fun w3 h3 => Ref.sync_any w3 (h3.ref hd hr hne) (by omega) (by omega)⟩
theorem two_arm (hd : DiskAt P w d D Sd) (hr : Ref.DiskAt P w r D2 Sr) (hne : ∀ q ∈ Sd, q ∉ Sr) (n : Int) (hn : n ≤ 9223372036854775807) :
    TwoCalls P w d r Sd Sr 28 95 #[.pointer (some ⟨d, 0, none⟩), .int .i64 n] #[.pointer (some ⟨r, 0, none⟩), .int .i64 n] (.tuple #[]) (.tuple #[]) (D.arm n) (D2.arm n) :=
  ⟨arm_any w hd n hn, fun w3 h3 => Ref.arm_any w3 (h3.ref hd hr hne) n hn⟩
theorem two_crash (hd : DiskAt P w d D Sd) (hr : Ref.DiskAt P w r D2 Sr) (hne : ∀ q ∈ Sd, q ∉ Sr) (hl : D.life ≤ 1000000 ∧ D2.life ≤ 1000000) (hp : D.pending.length ≤ 1000000 ∧ D2.pending.length ≤ 1000000) {v : Value} {ks : List Bool} (hk : KeepAt w (Sd ++ Sr) v ks) :
    TwoCalls P w d r Sd Sr 25 96 #[.pointer (some ⟨d, 0, none⟩), v] #[.pointer (some ⟨r, 0, none⟩), v] (.tuple #[]) (.tuple #[]) (D.crash (keepOf ks)) (D2.crash (keepOf ks)) :=
  ⟨crash_any w hd (by omega) (by omega) v ks (hk.mono fun q hq => List.mem_append_left _ hq), fun w3 h3 => Ref.crash_any w3 (h3.ref hd hr hne) (by omega) (by omega) v ks (hk.keeps h3.keeps_)⟩
theorem spoil_any {P : Nat → Prop} {b : Nat} {D : Dsk} {S : List Nat} (w : World) (h : DiskAt P w b D S) (hn : D.pending.length ≤ 1000000) (i k y : Int) :
    Calls Tryz.prog 34 #[.pointer (some ⟨b, 0, none⟩), .int .i64 i, .int .i64 k, .int .u8 y] w fun e w' => e = .returned (.int .i64 (D.spoil i k y).1) ∧ After P w w' b (D.spoil i k y).2 S := by
  by_cases hbad : (D.spoil i k y).1 = 0
  · have hd : D.down = false := by
      cases hd : D.down with
      | false => rfl
      | true => unfold Dsk.spoil at hbad; rw [if_pos hd] at hbad; exact absurd hbad (by simp)
    have hi : ¬ (i < 0 ∨ (D.blocks.length : Int) ≤ i) := fun h => by unfold Dsk.spoil at hbad; rw [hd, if_neg (by simp), if_pos h] at hbad; exact absurd hbad (by simp)
    have hk : ¬ (k < 0 ∨ 256 ≤ k) := fun h => by unfold Dsk.spoil at hbad; rw [hd, if_neg (by simp), if_neg hi, if_pos h] at hbad; exact absurd hbad (by simp)
    obtain ⟨i', rfl⟩ : ∃ n : Nat, i = n := ⟨i.toNat, by omega⟩
    obtain ⟨k', rfl⟩ : ∃ n : Nat, k = n := ⟨k.toNat, by omega⟩
    obtain ⟨ho, g1, cur1, pv, ps, rfl, hr⟩ := h
    refine (spoil_good w hr ho hd hn i' k' y (by omega) (by omega)).mono ?_
    rintro e w' ⟨rfl, ha⟩
    exact ⟨by rw [hbad], ha⟩
  · refine (spoil_bad w h i k y hbad).mono ?_
    rintro e w' ⟨rfl, e2, hb⟩
    rw [e2]
    exact ⟨rfl, After.of_below h hb⟩
theorem ref_spoil_any {P : Nat → Prop} {b : Nat} {D : Dsk} {S : List Nat} (w : World) (h : Ref.DiskAt P w b D S) (hn : D.pending.length ≤ 1000000) (i k y : Int) :
    Calls Tryz.prog 97 #[.pointer (some ⟨b, 0, none⟩), .int .i64 i, .int .i64 k, .int .u8 y] w fun e w' => e = .returned (.int .i64 (D.spoil i k y).1) ∧ Ref.After P w w' b (D.spoil i k y).2 S := by
  by_cases hbad : (D.spoil i k y).1 = 0
  · have hd : D.down = false := by
      cases hd : D.down with
      | false => rfl
      | true => unfold Dsk.spoil at hbad; rw [if_pos hd] at hbad; exact absurd hbad (by simp)
    have hi : ¬ (i < 0 ∨ (D.blocks.length : Int) ≤ i) := fun h => by unfold Dsk.spoil at hbad; rw [hd, if_neg (by simp), if_pos h] at hbad; exact absurd hbad (by simp)
    have hk : ¬ (k < 0 ∨ 256 ≤ k) := fun h => by unfold Dsk.spoil at hbad; rw [hd, if_neg (by simp), if_neg hi, if_pos h] at hbad; exact absurd hbad (by simp)
    obtain ⟨i', rfl⟩ : ∃ n : Nat, i = n := ⟨i.toNat, by omega⟩
    obtain ⟨k', rfl⟩ : ∃ n : Nat, k = n := ⟨k.toNat, by omega⟩
    obtain ⟨ho, g1, cur1, pv, ps, rfl, hr⟩ := h
    refine (Ref.spoil_good w hr ho hd hn i' k' y (by omega) (by omega)).mono ?_
    rintro e w' ⟨rfl, ha⟩
    exact ⟨by rw [hbad], ha⟩
  · refine (Ref.spoil_bad w h i k y hbad).mono ?_
    rintro e w' ⟨rfl, e2, rfl⟩
    rw [e2]
    exact ⟨rfl, Ref.After.refl h⟩
theorem two_spoil (hd : DiskAt P w d D Sd) (hr : Ref.DiskAt P w r D2 Sr) (hne : ∀ q ∈ Sd, q ∉ Sr) (hp : D.pending.length ≤ 1000000 ∧ D2.pending.length ≤ 1000000) (i k y : Int) :
    TwoCalls P w d r Sd Sr 34 97 #[.pointer (some ⟨d, 0, none⟩), .int .i64 i, .int .i64 k, .int .u8 y] #[.pointer (some ⟨r, 0, none⟩), .int .i64 i, .int .i64 k, .int .u8 y] (.int .i64 (D.spoil i k y).1) (.int .i64 (D2.spoil i k y).1) (D.spoil i k y).2 (D2.spoil i k y).2 :=
  ⟨spoil_any w hd hp.1 i k y, fun w3 h3 => ref_spoil_any w3 (h3.ref hd hr hne) hp.2 i k y⟩
/-- The state behind two calls. -/
theorem two_loose {w0 w1 w2 : World} {E E2 : Dsk} (hb : Below w0.heap.size w0 w) (hd : DiskAt P w0 d D Sd) (hr : Ref.DiskAt P w0 r D2 Sr) (hne : ∀ q ∈ Sd, q ∉ Sr) (h1 : After P w w1 d E Sd) (h2 : Ref.After P w1 w2 r E2 Sr) (hl : Lim N n E) (hp : Lim N n E2) : LooseAfter P w0 w2 d r N n (Sd ++ Sr) := by
  have hd' := hd.below hb
  have hr' := hr.below hb
  refine LooseAfter.behind hb (loose_after h1 hd' (h1.ref hd' hr' hne) (fun q hq => ?_) hne h2 hl hp)
  obtain ⟨_, _, hb, _⟩ := hr'.lt q hq
  exact hb.lt
end

end Go.Proofs.YtbgiklkpinflaaaGreat

namespace Go.Proofs.YtbgiklkpinflaaaGreat
open Go.RowKit Go.Shelf
attribute [local go_sem ↓] Go.wp_at_zero Go.wp_at_succ

/-- What a call of acted leaves. -/
def ActedPost (P : Nat → Prop) (w : World) (d r N n : Nat) (S : List Nat) (e : Ending) (w' : World) : Prop := (∃ b, e = .returned (.bool b)) ∧ LooseAfter P w w' d r N n S

section
variable {P : Nat → Prop} {d r n N : Nat} {D D2 : Dsk} {Sd Sr : List Nat}

set_option maxRecDepth 100000 in
set_option maxHeartbeats 4000000 in
theorem acted_sync (w : World) (hd : DiskAt P w d D Sd) (hr : Ref.DiskAt P w r D2 Sr) (hne : ∀ q ∈ Sd, q ∉ Sr) (hl : Lim N n D) (hp : Lim N n D2) (hn : n ≤ 1000) (kd : Nat) (i t y : Int) (sh : Bool) (kv : Value) (hm : (kd : Int) % 7 = 2) :
    Calls Tryz.prog 42 #[.pointer (some ⟨d, 0, none⟩), .pointer (some ⟨r, 0, none⟩), .agg (actCells kd i t y sh kv)] w (ActedPost P w d r N (n + 1) (Sd ++ Sr)) := by
  have hb1 : Below w.heap.size w (w.alloc (.cells (actCells kd i t y sh kv) 85)) := (Below.refl _ w).alloc (Nat.le_refl _) _
  have HT := two_sync (hd.below hb1) (hr.below hb1) hne ⟨by have := hl.2.1; omega, by have := hp.2.1; omega⟩ ⟨by have := hl.2.2; omega, by have := hp.2.2; omega⟩
  have HE : Hid (∀ w1 w2, After P _ w1 d D.sync.2 Sd → Ref.After P w1 w2 r D2.sync.2 Sr → _) := Lib.hid fun w1 w2 h1 h2 => two_loose (w1 := w1) (w2 := w2) hb1 hd hr hne h1 h2 hl.sync hp.sync
  obtain ⟨x, hx⟩ : ∃ x, x = D.sync.1 := ⟨_, rfl⟩
  obtain ⟨x2, hx2⟩ : ∃ x, x = D2.sync.1 := ⟨_, rfl⟩
  rw [← hx, ← hx2] at HT
  have HT := Lib.hid HT
  obtain ⟨tb, tx⟩ : ∃ tb, (x == x2) = tb := ⟨_, rfl⟩
  clear hx hx2 hd hr
  unfold actCells at *
  go_enter Tryz.func42, Tryz.ntmps42
  go_wp2_with (first
    | (go_at_call 94; refine (HT.out.2 _ HA.out).mono ?_; rintro e w4 ⟨rfl, ha4⟩; have HB := Lib.hid ha4; clear ha4)
    | (go_at_call 93; refine HT.out.1.mono ?_; rintro e w3 ⟨rfl, ha3⟩; have HA := Lib.hid ha3; clear ha3))
  go_ret
  exact ⟨⟨_, rfl⟩, HE.out _ _ HA.out HB.out⟩

set_option maxRecDepth 100000 in
set_option maxHeartbeats 4000000 in
theorem acted_none (w : World) (hd : DiskAt P w d D Sd) (hr : Ref.DiskAt P w r D2 Sr) (hne : ∀ q ∈ Sd, q ∉ Sr) (hl : Lim N n D) (hp : Lim N n D2) (kd : Nat) (i t y : Int) (sh : Bool) (kv : Value) (hm : (kd : Int) % 7 = 6) :
    Calls Tryz.prog 42 #[.pointer (some ⟨d, 0, none⟩), .pointer (some ⟨r, 0, none⟩), .agg (actCells kd i t y sh kv)] w (ActedPost P w d r N (n + 1) (Sd ++ Sr)) := by
  have hb1 : Below w.heap.size w (w.alloc (.cells (actCells kd i t y sh kv) 85)) := (Below.refl _ w).alloc (Nat.le_refl _) _
  have HE := Lib.hid (Loose.refl (n := n + 1) (⟨D, D2, Sd, Sr, rfl, hne, hd, hr, hl.more (by omega), hp.more (by omega)⟩) hb1)
  clear hd hr hb1
  unfold actCells at *
  go_enter Tryz.func42, Tryz.ntmps42
  go_wp2
  go_ret
  exact ⟨⟨_, rfl⟩, HE.out⟩

set_option maxRecDepth 100000 in
set_option maxHeartbeats 4000000 in
theorem acted_read (w : World) (hd : DiskAt P w d D Sd) (hr : Ref.DiskAt P w r D2 Sr) (hne : ∀ q ∈ Sd, q ∉ Sr) (hl : Lim N n D) (hp : Lim N n D2) (hn : n ≤ 1000) (kd : Nat) (i t y : Int) (sh : Bool) (kv : Value) (hm : (kd : Int) % 7 = 1) :
    Calls Tryz.prog 42 #[.pointer (some ⟨d, 0, none⟩), .pointer (some ⟨r, 0, none⟩), .agg (actCells kd i t y sh kv)] w (ActedPost P w d r N (n + 1) (Sd ++ Sr)) := by
  have hb1 : Below w.heap.size w (w.alloc (.cells (actCells kd i t y sh kv) 85)) := (Below.refl _ w).alloc (Nat.le_refl _) _
  have hbox : Blk (w.alloc (.cells (actCells kd i t y sh kv) 85)) w.heap.size 85 (actCells kd i t y sh kv) := Blk.new w _ _
  have hpl := hl.2.2
  have hpr := hp.2.2
  obtain ⟨x, hx⟩ : ∃ x, x = D.read i := ⟨_, rfl⟩
  obtain ⟨x2, hx2⟩ : ∃ x, x = D2.read i := ⟨_, rfl⟩
  have HR1 : Hid (Calls Tryz.prog 91 #[.pointer (some ⟨d, 0, none⟩), .int .i64 i] (w.alloc (.cells (actCells kd i t y sh kv) 85)) (ReadPost (w.alloc (.cells (actCells kd i t y sh kv) 85)) x)) := by
    rw [hx]
    exact read_any _ (hd.below hb1) (by omega) _
  have HR2 : Hid (∀ w1, Below (w.alloc (.cells (actCells kd i t y sh kv) 85)).heap.size (w.alloc (.cells (actCells kd i t y sh kv) 85)) w1 → Calls Tryz.prog 92 #[.pointer (some ⟨r, 0, none⟩), .int .i64 i] w1 (ReadPost w1 x2)) := by
    intro w1 h1
    rw [hx2]
    exact Ref.read_any _ ((hr.below hb1).below h1) (by omega) _
  have HC : Hid (∀ w1, Below (w.alloc (.cells (actCells kd i t y sh kv) 85)).heap.size (w.alloc (.cells (actCells kd i t y sh kv) 85)) w1 → w1.cell? ⟨w.heap.size, 1, none⟩ = some (.int .i64 i)) := fun w1 h1 => (hbox.below h1 hbox.lt).cell 1
  have HE : Hid (∀ w4, Below w.heap.size w w4 → LooseAfter P w w4 d r N (n + 1) (Sd ++ Sr)) := fun w4 h4 => Loose.refl (n := n + 1) (⟨D, D2, Sd, Sr, rfl, hne, hd, hr, hl.more (by omega), hp.more (by omega)⟩) h4
  have HB0 := Lib.hid hb1
  clear hx hx2 hd hr hb1 hbox
  by_cases hxx : x.1 = x2.1
  · have tx : (x.1 == x2.1) = true := by simp [hxx]
    unfold actCells at *
    go_enter Tryz.func42, Tryz.ntmps42
    go_wp2_with (first
      | (go_at_call 58; refine (same_loose (conv_got (HG1.out.below_ HB2.out)) (conv_got HG2.out)).mono ?_; rintro e w3 ⟨⟨sb, rfl⟩, hb3⟩; have HB3 := Lib.hid hb3; clear hb3)
      | (go_at_call 92; refine (HR2.out _ HB1.out).mono ?_; rintro e w2 ⟨v2, rfl, hg2, hb2⟩; have HG2 := Lib.hid hg2; have HB2 := Lib.hid hb2; clear hg2 hb2)
      | (go_at_call 91; refine HR1.out.mono ?_; rintro e w1 ⟨v1, rfl, hg1, hb1⟩; have HG1 := Lib.hid hg1; have HB1 := Lib.hid hb1; have c1 := HC.out _ hb1; clear hg1 hb1))
    go_ret
    refine ⟨⟨_, rfl⟩, HE.out _ ?_⟩
    have a0 := HB0.out
    have a1 := HB1.out
    have a2 := HB2.out
    have a3 := HB3.out
    exact ((a0.trans (a1.mono a0.size)).trans (a2.mono (Nat.le_trans a0.size a1.size))).trans (a3.mono (Nat.le_trans (Nat.le_trans a0.size a1.size) a2.size))
  · have tx : (x.1 == x2.1) = false := by simpa using hxx
    unfold actCells at *
    go_enter Tryz.func42, Tryz.ntmps42
    go_wp2_with (first
      | (go_at_call 92; refine (HR2.out _ HB1.out).mono ?_; rintro e w2 ⟨v2, rfl, hg2, hb2⟩; have HG2 := Lib.hid hg2; have HB2 := Lib.hid hb2; clear hg2 hb2)
      | (go_at_call 91; refine HR1.out.mono ?_; rintro e w1 ⟨v1, rfl, hg1, hb1⟩; have HG1 := Lib.hid hg1; have HB1 := Lib.hid hb1; have c1 := HC.out _ hb1; clear hg1 hb1))
    go_ret
    refine ⟨⟨_, rfl⟩, HE.out _ ?_⟩
    have a0 := HB0.out
    have a1 := HB1.out
    have a2 := HB2.out
    exact (a0.trans (a1.mono a0.size)).trans (a2.mono (Nat.le_trans a0.size a1.size))

set_option maxRecDepth 100000 in
set_option maxHeartbeats 4000000 in
theorem acted_arm (w : World) (hd : DiskAt P w d D Sd) (hr : Ref.DiskAt P w r D2 Sr) (hne : ∀ q ∈ Sd, q ∉ Sr) (hl : Lim N n D) (hp : Lim N n D2) (kd : Nat) (i t y : Int) (ht : t ≤ 9223372036854775807) (sh : Bool) (kv : Value) (hm : (kd : Int) % 7 = 3) :
    Calls Tryz.prog 42 #[.pointer (some ⟨d, 0, none⟩), .pointer (some ⟨r, 0, none⟩), .agg (actCells kd i t y sh kv)] w (ActedPost P w d r N (n + 1) (Sd ++ Sr)) := by
  have hb1 : Below w.heap.size w (w.alloc (.cells (actCells kd i t y sh kv) 85)) := (Below.refl _ w).alloc (Nat.le_refl _) _
  have hbox : Blk (w.alloc (.cells (actCells kd i t y sh kv) 85)) w.heap.size 85 (actCells kd i t y sh kv) := Blk.new w _ _
  have HT := Lib.hid (two_arm (hd.below hb1) (hr.below hb1) hne t ht)
  have HE : Hid (∀ w1 w2, After P _ w1 d (D.arm t) Sd → Ref.After P w1 w2 r (D2.arm t) Sr → _) := Lib.hid fun w1 w2 h1 h2 => two_loose (n := n + 1) (w1 := w1) (w2 := w2) hb1 hd hr hne h1 h2 (hl.arm t) (hp.arm t)
  have HC : Hid (∀ w1, After P (w.alloc (.cells (actCells kd i t y sh kv) 85)) w1 d (D.arm t) Sd → w1.cell? ⟨w.heap.size, 2, none⟩ = some (.int .i64 t)) := fun w1 h1 => (h1.blk (hd.below hb1) hbox (by decide) (by decide) (by decide)).cell 2
  clear hd hr hb1 hbox
  unfold actCells at *
  go_enter Tryz.func42, Tryz.ntmps42
  go_wp2_with (first
    | (go_at_call 95; refine (HT.out.2 _ HA.out).mono ?_; rintro e w4 ⟨rfl, ha4⟩; have HB := Lib.hid ha4; clear ha4)
    | (go_at_call 28; refine HT.out.1.mono ?_; rintro e w3 ⟨rfl, ha3⟩; have HA := Lib.hid ha3; have c3 := HC.out _ ha3; clear ha3))
  go_ret
  exact ⟨⟨_, rfl⟩, HE.out _ _ HA.out HB.out⟩

set_option maxRecDepth 100000 in
set_option maxHeartbeats 4000000 in
theorem acted_crash (w : World) (hd : DiskAt P w d D Sd) (hr : Ref.DiskAt P w r D2 Sr) (hne : ∀ q ∈ Sd, q ∉ Sr) (hl : Lim N n D) (hp : Lim N n D2) (hn : n ≤ 1000) (kd : Nat) (i t y : Int) (sh : Bool) (kv : Value) (ks : List Bool) (hk : KeepAt w (Sd ++ Sr) kv ks) (hm : (kd : Int) % 7 = 4) :
    Calls Tryz.prog 42 #[.pointer (some ⟨d, 0, none⟩), .pointer (some ⟨r, 0, none⟩), .agg (actCells kd i t y sh kv)] w (ActedPost P w d r N (n + 1) (Sd ++ Sr)) := by
  have hb1 : Below w.heap.size w (w.alloc (.cells (actCells kd i t y sh kv) 85)) := (Below.refl _ w).alloc (Nat.le_refl _) _
  have hbox : Blk (w.alloc (.cells (actCells kd i t y sh kv) 85)) w.heap.size 85 (actCells kd i t y sh kv) := Blk.new w _ _
  have hk1 : KeepAt (w.alloc (.cells (actCells kd i t y sh kv) 85)) (Sd ++ Sr) kv ks := KeepAt.keeps (S := []) hk (Keeps.of_below hb1)
  have HT := Lib.hid (two_crash (hd.below hb1) (hr.below hb1) hne ⟨by have := hl.2.1; omega, by have := hp.2.1; omega⟩ ⟨by have := hl.2.2; omega, by have := hp.2.2; omega⟩ hk1)
  have HE : Hid (∀ w1 w2, After P _ w1 d (D.crash (keepOf ks)) Sd → Ref.After P w1 w2 r (D2.crash (keepOf ks)) Sr → _) := Lib.hid fun w1 w2 h1 h2 => two_loose (n := n + 1) (w1 := w1) (w2 := w2) hb1 hd hr hne h1 h2 (hl.crash _) (hp.crash _)
  have HC : Hid (∀ w1, After P (w.alloc (.cells (actCells kd i t y sh kv) 85)) w1 d (D.crash (keepOf ks)) Sd → w1.cell? ⟨w.heap.size, 5, none⟩ = some kv) := fun w1 h1 => (h1.blk (hd.below hb1) hbox (by decide) (by decide) (by decide)).cell 5
  have hkv : kv.oneCell' = true := by
    obtain ⟨A, c, rfl, _⟩ := hk
    rfl
  obtain ⟨A, nn, c, rfl⟩ : ∃ A n c, kv = .slice A n c := by
    obtain ⟨A, c, rfl, _⟩ := hk
    exact ⟨_, _, _, rfl⟩
  clear hd hr hb1 hbox hk hk1 hkv
  unfold actCells at *
  go_enter Tryz.func42, Tryz.ntmps42
  go_wp2_with (first
    | (go_at_call 96; refine (HT.out.2 _ HA.out).mono ?_; rintro e w4 ⟨rfl, ha4⟩; have HB := Lib.hid ha4; clear ha4)
    | (go_at_call 25; refine HT.out.1.mono ?_; rintro e w3 ⟨rfl, ha3⟩; have HA := Lib.hid ha3; have c3 := HC.out _ ha3; clear ha3))
  go_ret
  exact ⟨⟨_, rfl⟩, HE.out _ _ HA.out HB.out⟩

end

end Go.Proofs.YtbgiklkpinflaaaGreat

namespace Go.Proofs.YtbgiklkpinflaaaGreat
open Go.RowKit Go.Shelf
attribute [local go_sem ↓] Go.wp_at_zero Go.wp_at_succ

section
variable {P : Nat → Prop} {d r n N : Nat} {D D2 : Dsk} {Sd Sr : List Nat}

set_option maxRecDepth 100000 in
set_option maxHeartbeats 1000000 in
theorem acted_spoil (w : World) (hd : DiskAt P w d D Sd) (hr : Ref.DiskAt P w r D2 Sr) (hne : ∀ q ∈ Sd, q ∉ Sr) (hl : Lim N n D) (hp : Lim N n D2) (hn : n ≤ 1000) (kd : Nat) (i t y : Int) (sh : Bool) (kv : Value) (hm : (kd : Int) % 7 = 5) :
    Calls Tryz.prog 42 #[.pointer (some ⟨d, 0, none⟩), .pointer (some ⟨r, 0, none⟩), .agg (actCells kd i t y sh kv)] w (ActedPost P w d r N (n + 1) (Sd ++ Sr)) := by
  obtain ⟨W1, hW1⟩ : ∃ W1, W1 = w.alloc (.cells (actCells kd i t y sh kv) 85) := ⟨_, rfl⟩
  have hb1 : Below w.heap.size w W1.drew := by rw [hW1]; exact ((Below.refl _ w).alloc (Nat.le_refl _) _).drew_
  have hbox : Blk W1.drew w.heap.size 85 (actCells kd i t y sh kv) := by rw [hW1]; exact Blk.new w _ _
  have HT := two_spoil (hd.below hb1) (hr.below hb1) hne ⟨by have := hl.2.2; omega, by have := hp.2.2; omega⟩ i t y
  have HE : Hid (∀ w1 w2, After P _ w1 d (D.spoil i t y).2 Sd → Ref.After P w1 w2 r (D2.spoil i t y).2 Sr → _) := Lib.hid fun w1 w2 h1 h2 => two_loose (n := n + 1) (w1 := w1) (w2 := w2) hb1 hd hr hne h1 h2 (hl.spoil i t y) (hp.spoil i t y)
  have HC : Hid (∀ w1, After P W1.drew w1 d (D.spoil i t y).2 Sd → Blk w1 w.heap.size 85 (actCells kd i t y sh kv)) := fun w1 h1 => h1.blk (hd.below hb1) hbox (by decide) (by decide) (by decide)
  have HC2 : Hid (∀ w1 w2, After P W1.drew w1 d (D.spoil i t y).2 Sd → Ref.After P w1 w2 r (D2.spoil i t y).2 Sr → Blk w2 w.heap.size 85 (actCells kd i t y sh kv)) := fun w1 w2 h1 h2 => h2.blk (h1.ref (hd.below hb1) (hr.below hb1) hne) (h1.blk (hd.below hb1) hbox (by decide) (by decide) (by decide)) (by decide) (by decide) (by decide)
  obtain ⟨x, hx⟩ : ∃ x, x = (D.spoil i t y).1 := ⟨_, rfl⟩
  obtain ⟨x2, hx2⟩ : ∃ x, x = (D2.spoil i t y).1 := ⟨_, rfl⟩
  rw [← hx, ← hx2] at HT
  have HT := Lib.hid HT
  obtain ⟨tb, tx⟩ : ∃ tb, (x == x2) = tb := ⟨_, rfl⟩
  have q1 : W1.cell? ⟨w.heap.size, 1, none⟩ = some (.int .i64 i) := hbox.cell 1
  have q2 : W1.cell? ⟨w.heap.size, 2, none⟩ = some (.int .i64 t) := hbox.cell 2
  have q3 : W1.cell? ⟨w.heap.size, 3, none⟩ = some (.int .u8 y) := hbox.cell 3
  have HW1 := Lib.hid hW1
  clear hx hx2 hd hr hb1 hbox hW1
  unfold actCells at *
  go_enter Tryz.func42, Tryz.ntmps42
  go_wp2
  rw [← HW1.out]
  go_region_held3 (fun w' => w'.cell? ⟨w.heap.size, 1, none⟩ = some (.int .i64 i) ∧ w'.cell? ⟨w.heap.size, 2, none⟩ = some (.int .i64 t) ∧ w'.cell? ⟨w.heap.size, 3, none⟩ = some (.int .u8 y)) (go_keep)
    ((first
      | (go_at_call 97; refine (HT.out.2 _ HA.out).mono ?_; rintro e w4 ⟨rfl, ha4⟩; have HB := Lib.hid ha4; have b4 := HC2.out _ _ HA.out ha4; have d1 : w4.cell? ⟨w.heap.size, 1, none⟩ = some (.int .i64 i) := b4.cell 1; have d2 : w4.cell? ⟨w.heap.size, 2, none⟩ = some (.int .i64 t) := b4.cell 2; have d3 : w4.cell? ⟨w.heap.size, 3, none⟩ = some (.int .u8 y) := b4.cell 3; clear ha4 b4)
      | (go_at_call 34; refine HT.out.1.mono ?_; rintro e w3 ⟨rfl, ha3⟩; have HA := Lib.hid ha3; have b3 := HC.out _ ha3; have c1 : w3.cell? ⟨w.heap.size, 1, none⟩ = some (.int .i64 i) := b3.cell 1; have c2 : w3.cell? ⟨w.heap.size, 2, none⟩ = some (.int .i64 t) := b3.cell 2; have c3 : w3.cell? ⟨w.heap.size, 3, none⟩ = some (.int .u8 y) := b3.cell 3; clear ha3 b3)))
  all_goals
    go_wp2
    go_ret
    exact ⟨⟨_, rfl⟩, HE.out _ _ HA.out HB.out⟩

set_option maxRecDepth 100000 in
set_option maxHeartbeats 1000000 in
theorem acted_write (w : World) (hd : DiskAt P w d D Sd) (hr : Ref.DiskAt P w r D2 Sr) (hne : ∀ q ∈ Sd, q ∉ Sr) (hl : Lim N n D) (hp : Lim N n D2) (hn : n ≤ 1000) (kd : Nat) (i t y : Int) (sh : Bool) (kv : Value) (_hkv : kv.oneCell' = true) (hm : (kd : Int) % 7 = 0) :
    Calls Tryz.prog 42 #[.pointer (some ⟨d, 0, none⟩), .pointer (some ⟨r, 0, none⟩), .agg (actCells kd i t y sh kv)] w (ActedPost P w d r N (n + 1) (Sd ++ Sr)) := by
  obtain ⟨W1, hW1⟩ : ∃ W1, W1 = w.alloc (.cells (actCells kd i t y sh kv) 85) := ⟨_, rfl⟩
  have HB1 : Hid (Below w.heap.size w W1) := by rw [hW1]; exact (Below.refl _ w).alloc (Nat.le_refl _) _
  have HBOX : Hid (Blk W1 w.heap.size 85 (actCells kd i t y sh kv)) := by rw [hW1]; exact Blk.new w _ _
  have HK : Hid (Calls Tryz.prog 89 #[.agg #[.int .u8 (kd : Int), .int .i64 i, .int .i64 t, .int .u8 y, .bool sh, kv]] W1 fun e w' => ∃ v l, e = .returned v ∧ BytesAt (W1.heap.size ≤ ·) w' v l ∧ Below W1.heap.size W1 w') := blockOf_calls W1 kd i t y sh kv
  rw [hW1] at HK
  have HW1 := Lib.hid hW1
  have HD := Lib.hid hd
  have HR := Lib.hid hr
  clear hd hr hW1
  unfold actCells at *
  go_enter Tryz.func42, Tryz.ntmps42
  go_wp2_with (go_at_call 89; refine HK.out.mono ?_; rintro e w2 ⟨v, l, rfl, hB2, hb2⟩; have HB2 := Lib.hid hB2; have Hb2 := Lib.hid hb2; clear hB2 hb2)
  have hb2 := Hb2.out
  rw [← HW1.out] at hb2
  have hbw : Below w.heap.size w w2.drew := (HB1.out.trans (hb2.mono HB1.out.size)).drew_
  have hbox : Blk w2.drew w.heap.size 85 #[.int .u8 (kd : Int), .int .i64 i, .int .i64 t, .int .u8 y, .bool sh, kv] := (HBOX.out.below hb2 HBOX.out.lt).drew
  have hB2 : BytesAt (fun _ => True) w2.drew v l := (HB2.out.mono fun _ _ => trivial)
  have HT := two_write (HD.out.below hbw) (HR.out.below hbw) hne ⟨by have := hl.2.1; omega, by have := hp.2.1; omega⟩ ⟨by have := hl.2.2; omega, by have := hp.2.2; omega⟩ i hB2
  have HE : Hid (∀ w3 w4, After P _ w3 d (D.write i l).2 Sd → Ref.After P w3 w4 r (D2.write i l).2 Sr → _) := Lib.hid fun w3 w4 h3 h4 => two_loose (n := n + 1) (w1 := w3) (w2 := w4) hbw HD.out HR.out hne h3 h4 (hl.write i l) (hp.write i l)
  have HC : Hid (∀ w1, After P w2.drew w1 d (D.write i l).2 Sd → Blk w1 w.heap.size 85 #[.int .u8 (kd : Int), .int .i64 i, .int .i64 t, .int .u8 y, .bool sh, kv]) := fun w1 h1 => h1.blk (HD.out.below hbw) hbox (by decide) (by decide) (by decide)
  have HC2 : Hid (∀ w1 w3, After P w2.drew w1 d (D.write i l).2 Sd → Ref.After P w1 w3 r (D2.write i l).2 Sr → Blk w3 w.heap.size 85 #[.int .u8 (kd : Int), .int .i64 i, .int .i64 t, .int .u8 y, .bool sh, kv]) := fun w1 w3 h1 h2 => h2.blk (h1.ref (HD.out.below hbw) (HR.out.below hbw) hne) (h1.blk (HD.out.below hbw) hbox (by decide) (by decide) (by decide)) (by decide) (by decide) (by decide)
  obtain ⟨x, hx⟩ : ∃ x, x = (D.write i l).1 := ⟨_, rfl⟩
  obtain ⟨x2, hx2⟩ : ∃ x, x = (D2.write i l).1 := ⟨_, rfl⟩
  rw [← hx, ← hx2] at HT
  have HT := Lib.hid HT
  obtain ⟨tb, tx⟩ : ∃ tb, (x == x2) = tb := ⟨_, rfl⟩
  have q1 : w2.cell? ⟨w.heap.size, 1, none⟩ = some (.int .i64 i) := hbox.cell 1
  clear hx hx2 hb2 hbw hbox hB2
  go_region_held3 (fun w' => w'.cell? ⟨w.heap.size, 1, none⟩ = some (.int .i64 i)) (go_keep)
    ((first
      | (go_at_call 90; refine (HT.out.2 _ HA.out).mono ?_; rintro e w4 ⟨rfl, ha4⟩; have HB := Lib.hid ha4; have b4 := HC2.out _ _ HA.out ha4; have d1 : w4.cell? ⟨w.heap.size, 1, none⟩ = some (.int .i64 i) := b4.cell 1; clear ha4 b4)
      | (go_at_call 74; refine HT.out.1.mono ?_; rintro e w3 ⟨rfl, ha3⟩; have HA := Lib.hid ha3; have b3 := HC.out _ ha3; have c1 : w3.cell? ⟨w.heap.size, 1, none⟩ = some (.int .i64 i) := b3.cell 1; clear ha3 b3)))
  all_goals
    go_wp2
    go_ret
    exact ⟨⟨_, rfl⟩, HE.out _ _ HA.out HB.out⟩

/-- A call of both disks, of whatever kind. -/
theorem acted_calls (w : World) {S : List Nat} (h : Loose P w d r N n S) (hn : n ≤ 1000) (kd : Nat) (i t y : Int) (ht : t ≤ 9223372036854775807) (sh : Bool) (kv : Value) (ks : List Bool) (hk : KeepAt w S kv ks) :
    Calls Tryz.prog 42 #[.pointer (some ⟨d, 0, none⟩), .pointer (some ⟨r, 0, none⟩), .agg (actCells kd i t y sh kv)] w (ActedPost P w d r N (n + 1) S) := by
  obtain ⟨D, D2, Sd, Sr, rfl, hne, hd, hr, hl, hp⟩ := h
  have hkv : kv.oneCell' = true := by
    obtain ⟨A, c, rfl, _⟩ := hk
    rfl
  have h7 : kd % 7 < 7 := Nat.mod_lt _ (by decide)
  have e7 : (kd : Int) % 7 = ((kd % 7 : Nat) : Int) := by omega
  rcases Nat.lt_or_ge (kd % 7) 1 with h | h
  · exact acted_write w hd hr hne hl hp hn kd i t y sh kv hkv (by omega)
  rcases Nat.lt_or_ge (kd % 7) 2 with h | h
  · exact acted_read w hd hr hne hl hp hn kd i t y sh kv (by omega)
  rcases Nat.lt_or_ge (kd % 7) 3 with h | h
  · exact acted_sync w hd hr hne hl hp hn kd i t y sh kv (by omega)
  rcases Nat.lt_or_ge (kd % 7) 4 with h | h
  · exact acted_arm w hd hr hne hl hp kd i t y ht sh kv (by omega)
  rcases Nat.lt_or_ge (kd % 7) 5 with h | h
  · exact acted_crash w hd hr hne hl hp hn kd i t y sh kv ks hk (by omega)
  rcases Nat.lt_or_ge (kd % 7) 6 with h | h
  · exact acted_spoil w hd hr hne hl hp hn kd i t y sh kv (by omega)
  · exact acted_none w hd hr hne hl hp kd i t y sh kv (by omega)

end

end Go.Proofs.YtbgiklkpinflaaaGreat

namespace Go.Proofs.YtbgiklkpinflaaaGreat
open Go.RowKit Go.Shelf Go.Maps
attribute [local go_sem ↓] Go.wp_at_zero Go.wp_at_succ

/-- What a store is that Format made of a disk that was up. -/
structure NewAt (X : Sto) (n m : Nat) : Prop where
  up : Up X.disk
  len : X.disk.blocks.length = n
  life : X.life = X.disk.life
  dlife : X.disk.life ≤ m
  pend : X.disk.pending = []
  now : X.now = .zero
  pins : X.pins = []
  opened : X.opened = false
  notes : X.notes = []
  gone : X.gone = []
theorem NewAt.made {D : Dsk} {n m : Nat} (hu : Up D) (hl : D.blocks.length = n) (h4 : 4 ≤ n) (hm : D.life ≤ m) : NewAt D.sto n m := by
  obtain ⟨_, w, e⟩ := fmt_up hu (by omega)
  exact ⟨w.up, w.len.trans hl, e.trans w.life.symm, by show D.fmt.2.life ≤ m; rw [w.life]; exact hm, w.pend, rfl, rfl, rfl, rfl, rfl⟩
theorem NewAt.joint {X : Sto} {n m : Nat} (h : NewAt X n m) : (Joint.new X n).sto = X := by
  obtain ⟨D, l, now, pins, op, notes, gone⟩ := X
  have e1 := h.now
  have e2 := h.pins
  have e3 := h.opened
  have e4 := h.notes
  have e5 := h.gone
  simp only at e1 e2 e3 e4 e5
  subst e1 e2 e3 e4 e5
  rfl
theorem NewAt.okJ {X : Sto} {n m : Nat} (h : NewAt X n m) (h4 : 4 ≤ n) (h5 : n ≤ 1024) (hm : m ≤ 100) : Ok m (Joint.new X n) := by
  have hlive : ∀ J ∈ (Joint.new X n).live, J = JSt.zero := fun J hJ => by
    rcases List.mem_cons.1 hJ with rfl | hJ
    · rfl
    · simp [Joint.new, heldJ] at hJ
  refine ⟨hm, h4, h5, h.len, h.up.down, h.pend, h.life, h.dlife, ⟨fun b => if b = 2 then (true, 0) else (false, 0), ⟨fun J hJ => ?_, fun J hJ K hK _ => ?_, fun J hJ K hK x hx => ?_⟩⟩, fun J hJ => ?_, Nat.zero_le _, fun J hJ => ?_, fun J hJ x hx => ?_, Nat.le_refl _, Nat.zero_le _, Nat.zero_le _, fun nx hn => by cases hn⟩
  · rw [hlive J hJ]
    refine ⟨by simp [JSt.zero], List.Pairwise.nil, by simp [JSt.zero], fun x hx => by simp [JSt.zero] at hx, fun x hx => by simp [JSt.zero] at hx, fun x hx => by simp [JSt.zero] at hx, fun x hx => by simp [JSt.zero] at hx, fun x hx => by simp [JSt.zero] at hx, ?_, fun b hb => ?_, by simp [JSt.zero]⟩
    · simp [JSt.zero, indexOf, entsLen, blocksFor]
    · have hb : b = 2 := by simpa [JSt.zero] using hb
      subst hb
      refine ⟨Nat.le_refl _, ?_, rfl⟩
      show 2 < n
      omega
  · rw [hlive J hJ, hlive K hK]
  · rw [hlive J hJ] at hx
    simp [JSt.zero] at hx
  · rw [hlive J hJ]
    exact Nat.zero_le _
  · rw [hlive J hJ]
    exact Nat.zero_le _
  · rw [hlive J hJ] at hx
    simp [JSt.zero] at hx
theorem fresh_format {w0 w : World} {d : Nat} {D : Dsk} {S : List Nat} (hw : w0.heap.size ≤ w.heap.size) (hD : DiskAt (w0.heap.size ≤ ·) w d D S) (hS : ∀ q ∈ S, w0.heap.size ≤ q) (hu : Up D) (hl : D.blocks.length = 10) (hlf : D.life ≤ 1000) (hpn : D.pending.length ≤ 1000) :
    Calls Tryz.prog 43 #[.pointer (some ⟨d, 0, none⟩)] w fun e w' => ∃ s O, e = .returned (.tuple #[.pointer (some ⟨s, 0, none⟩), .int .i64 0]) ∧ StoN (w0.heap.size ≤ ·) w' s d D.sto [] O ∧ (∀ k ∈ O, w0.heap.size ≤ k) ∧ Keeps (· ∈ S) w w' := by
  obtain ⟨z, _⟩ := fmt_up hu (by omega)
  refine (sto_format w hD ⟨by omega, by omega⟩ z).mono ?_
  rintro e w' ⟨s, O, rfl, hA, hO, k⟩
  obtain ⟨Q, hQ⟩ := hA.n_
  have hq0 : Q = [] := List.eq_nil_of_length_eq_zero (by rw [hQ.qlen]; rfl)
  subst hq0
  exact ⟨s, O, rfl, hQ, fun i hi => (hO i hi).elim (hS i) (fun h => Nat.le_trans hw h), k⟩
theorem fresh_play {w0 w : World} {g d s r m : Nat} {D : Dsk} {O : List Nat} (hsz : w0.heap.size ≤ w.heap.size) (hk : Below w0.heap.size w0 w) (hs : StoN (w0.heap.size ≤ ·) w s d D.sto [] O) (hO : ∀ k ∈ O, w0.heap.size ≤ k) (hr : RefAt w r (RSto.new 10) [r])
    (hb : Blk w g 39 #[.pointer (some ⟨d, 0, none⟩), .pointer (some ⟨s, 0, none⟩), .pointer (some ⟨r, 0, none⟩), .slice none 0 0]) (hr0 : w0.heap.size ≤ r) (hg0 : w0.heap.size ≤ g) (hu : Up D) (hl : D.blocks.length = 10) (hlf : D.life ≤ m) (hm : m ≤ 100) : Play m w0 g d s r 10 w := by
  have HX := NewAt.made hu hl (by omega) hlf
  refine ⟨Joint.new D.sto 10, [], [], O, [r], .slice none 0 0, ?_, HX.okJ (by omega) (by omega) hm, ⟨HX.up.armed, fmt_rooted hu (by omega)⟩, rfl, PinsRel.nil _, fun q hq => by simp [Joint.new] at hq⟩
  rw [HX.joint, Joint.new_ref]
  exact ⟨hsz, hk, hs, List.nodup_nil, fun q hq => by simp at hq, hr, hb, ⟨rfl, .inl ⟨rfl, rfl⟩⟩, fun k hk => by simp [Value.ownBlock] at hk, hO, fun k hk => by simp at hk; omega, hg0⟩

end Go.Proofs.YtbgiklkpinflaaaGreat

namespace Go.Proofs.YtbgiklkpinflaaaGreat
open Go.RowKit Go.Shelf

/-- The k-th call of a list that came in: its six cells, and what its list of bools holds. -/
def ActRow (w : World) (gb go k : Nat) : Prop :=
  ∃ (kd : Nat) (i t y : Int) (sh : Bool) (kv : Value) (ks : List Bool), w.cell? ⟨gb, go + k * 6, none⟩ = some (.int .u8 (kd : Int)) ∧ w.cell? ⟨gb, go + k * 6 + 1, none⟩ = some (.int .i64 i) ∧ w.cell? ⟨gb, go + k * 6 + 2, none⟩ = some (.int .i64 t) ∧ w.cell? ⟨gb, go + k * 6 + 3, none⟩ = some (.int .u8 y) ∧
    w.cell? ⟨gb, go + k * 6 + 4, none⟩ = some (.bool sh) ∧ w.cell? ⟨gb, go + k * 6 + 5, none⟩ = some kv ∧ t ≤ 9223372036854775807 ∧ KeepAt w [] kv ks
/-- A list of calls that came in. -/
def ActArg (w : World) (A : Option Addr) (n : Nat) : Prop := n ≤ maxLen ∧ ∀ k, k < n → ∃ gb go, A = some ⟨gb, go, none⟩ ∧ ActRow w gb go k

theorem ActRow.below {w w1 : World} {gb go k : Nat} (h : ActRow w gb go k) (hb : Below w.heap.size w w1) :
    ∃ (kd : Nat) (i t y : Int) (sh : Bool) (kv : Value) (ks : List Bool), w1.cell? ⟨gb, go + k * 6, none⟩ = some (.int .u8 (kd : Int)) ∧ w1.cell? ⟨gb, go + k * 6 + 1, none⟩ = some (.int .i64 i) ∧ w1.cell? ⟨gb, go + k * 6 + 2, none⟩ = some (.int .i64 t) ∧ w1.cell? ⟨gb, go + k * 6 + 3, none⟩ = some (.int .u8 y) ∧
    w1.cell? ⟨gb, go + k * 6 + 4, none⟩ = some (.bool sh) ∧ w1.cell? ⟨gb, go + k * 6 + 5, none⟩ = some kv ∧ t ≤ 9223372036854775807 ∧ ∀ S : List Nat, (∀ q ∈ S, w.heap.size ≤ q) → KeepAt w1 S kv ks := by
  obtain ⟨kd, i, t, y, sh, kv, ks, h0, h1, h2, h3, h4, h5, ht, hk⟩ := h
  have g : ∀ {p : Addr} {v : Value}, w.cell? p = some v → w1.cell? p = some v := fun h => (hb.cell (World.block_lt_of_cell? w _ h)).trans h
  exact ⟨kd, i, t, y, sh, kv, ks, g h0, g h1, g h2, g h3, g h4, g h5, ht, fun S hS => keepAt_fresh hk hb hS⟩

end Go.Proofs.YtbgiklkpinflaaaGreat

namespace Go.Proofs.YtbgiklkpinflaaaGreat
open Go.RowKit Go.Shelf Go.ChangeShapes Go.WideShapes Go.Deep
theorem actArg_of {H : Type} {enc : TypeId × Value → H} {w : World} {held : Bool} {A : Option Addr} {n c : Nat} {d : DataW H} {p : List MemPlace} (h : DataW.Trod enc Tryz.prog w 0 (fun _ => true) held 80 (.slice A n c) d p) : ActArg w A n := by
  obtain ⟨fuel, hf⟩ := h
  rcases open_slice_fields Tryz.underlying80 Tryz.underlying85 (by kernel_rfl) (by kernel_rfl) hf with ⟨hcs, _⟩ | ⟨a, len, cap, m, D, Pl, hcs, _, hl, hm, hmm, _, hi⟩
  · simp [Value.cells] at hcs
    obtain ⟨rfl, rfl, rfl⟩ := hcs
    exact ⟨Nat.zero_le _, fun k hk => absurd hk (Nat.not_lt_zero _)⟩
  · simp [Value.cells] at hcs
    obtain ⟨rfl, rfl, rfl⟩ := hcs
    simp only [if_true] at hmm
    subst hmm
    refine ⟨Nat.le_trans hl hm, fun k hk => ?_⟩
    obtain ⟨gb, go, sp⟩ := a
    have hsp : sp = none := by
      obtain ⟨ys, n', _, _, _, hj⟩ := hi 0 (by omega)
      obtain ⟨v0, y0, c0, _, t0⟩ := hj 0 _ rfl
      rw [Nat.zero_mul] at c0
      simpa [Addr.add] using World.cell?_spot c0
    subst hsp
    have hadd : ∀ m, (⟨gb, go, none⟩ : Addr).add m = ⟨gb, go + m, none⟩ := fun m => by unfold Addr.add; split <;> simp_all
    refine ⟨gb, go, rfl, ?_⟩
    obtain ⟨ys, n', _, _, _, hj⟩ := hi k (by omega)
    obtain ⟨v0, y0, c0, _, t0⟩ := hj 0 _ rfl
    obtain ⟨v1, y1, c1, _, t1⟩ := hj 1 _ rfl
    obtain ⟨v2, y2, c2, _, t2⟩ := hj 2 _ rfl
    obtain ⟨v3, y3, c3, _, t3⟩ := hj 3 _ rfl
    obtain ⟨v4, y4, c4, _, t4⟩ := hj 4 _ rfl
    obtain ⟨v5, y5, c5, _, t5⟩ := hj 5 _ rfl
    rw [hadd] at c0 c1 c2 c3 c4 c5
    obtain ⟨x0, e0, _, w0⟩ := DataW.trod_int Tryz.underlying5 t0
    obtain ⟨x1, e1, _, w1⟩ := DataW.trod_int Tryz.underlying3 t1
    obtain ⟨x2, e2, _, w2⟩ := DataW.trod_int Tryz.underlying3 t2
    obtain ⟨x3, e3, _, w3⟩ := DataW.trod_int Tryz.underlying5 t3
    obtain ⟨x4, e4, _⟩ := DataW.trod_bool Tryz.underlying4 t4
    obtain ⟨ks, hks⟩ := keepAt_of t5
    simp only [List.cons.injEq, and_true] at e0 e1 e2 e3 e4
    subst e0 e1 e2 e3 e4
    have m0 : IntKind.u8.min = 0 := rfl
    have m2 : IntKind.i64.max = 9223372036854775807 := rfl
    have b0 : 0 ≤ x0 := by simp only [Lit.wf, Bool.and_eq_true, decide_eq_true_eq] at w0; omega
    have b2 : x2 ≤ 9223372036854775807 := by simp only [Lit.wf, Bool.and_eq_true, decide_eq_true_eq] at w2; omega
    obtain ⟨kd, rfl⟩ := Int.eq_ofNat_of_zero_le b0
    exact ⟨kd, x1, x2, x3, x4, v5, ks, c0, c1, c2, c3, c4, c5, b2, hks⟩

end Go.Proofs.YtbgiklkpinflaaaGreat

namespace Go.Proofs.YtbgiklkpinflaaaGreat
open Go.RowKit Go.Shelf Go.Maps
attribute [local go_sem ↓] Go.wp_at_zero Go.wp_at_succ

/-- Both disks lie in memory made since w0, apart from the bench's box. -/
def LPair (w0 w : World) (g d r n : Nat) : Prop := ∃ S, Loose (w0.heap.size ≤ ·) w d r 10 n S ∧ (∀ q ∈ S, w0.heap.size ≤ q) ∧ Below w0.heap.size w0 w ∧ g ∉ S ∧ w.cell? ⟨g, 0, none⟩ = some (.pointer (some ⟨d, 0, none⟩))
/-- The program's disk behind a loss of power. -/
def UpAt (w0 w : World) (g d n : Nat) (D : Dsk) (S : List Nat) : Prop := DiskAt (w0.heap.size ≤ ·) w d D S ∧ (∀ q ∈ S, w0.heap.size ≤ q) ∧ Below w0.heap.size w0 w ∧ g ∉ S ∧ w.cell? ⟨g, 0, none⟩ = some (.pointer (some ⟨d, 0, none⟩)) ∧ Up D ∧ D.blocks.length = 10 ∧ D.life ≤ n ∧ D.pending = []
section
variable {w0 w w1 : World} {g d s r n m : Nat}
theorem LPair.below (h : LPair w0 w g d r n) (hb : Below w.heap.size w w1) : LPair w0 w1 g d r n := by
  obtain ⟨S, a, c, e, f, z⟩ := h
  exact ⟨S, a.below hb, c, e.trans (hb.mono e.size), f, (hb.cell (World.block_lt_of_cell? w _ z)).trans z⟩
theorem LPair.cell (h : LPair w0 w g d r n) : w.cell? ⟨g, 0, none⟩ = some (.pointer (some ⟨d, 0, none⟩)) := by
  obtain ⟨S, a, c, e, f, z⟩ := h
  exact z
theorem LPair.old (h : LPair w0 w g d r n) : Below w0.heap.size w0 w := by
  obtain ⟨S, a, c, e, f, z⟩ := h
  exact e
theorem lpair_new {w2 : World} {Sr : List Nat} (h : Play m w0 g d s r 10 w) (_hm : m ≤ 100) (h2 : Ref.DiskAt (w0.heap.size ≤ ·) w2 w.heap.size (Dsk.new 10) Sr) (hSr : ∀ k ∈ Sr, w.heap.size ≤ k) (b2 : Below w.heap.size w w2) : LPair w0 w2 g d w.heap.size m := by
  have z := h.bench_
  obtain ⟨Y, Q, bp, O, S, bv, h1, h2', h3, h4, h5, h6⟩ := h
  obtain ⟨Sd, hD, hSd⟩ := h1.sto.disk_at
  have hlt : ∀ q ∈ Sd, q < w.heap.size := fun q hq => by
    obtain ⟨_, _, hb, _⟩ := hD.lt q hq
    exact hb.lt
  have hg : g ∉ Sd := fun hm => by
    obtain ⟨t, cs, hb, ht⟩ := hD.lt g hm
    have := (hb.det h1.bench).2
    subst this
    exact absurd ht (by decide)
  have hgl := World.block_lt_of_cell? w _ z
  have hp := h2'.pend
  have hl := h2'.dlife
  refine ⟨Sd ++ Sr, ⟨Y.disk, Dsk.new 10, Sd, Sr, rfl, fun q hq hq2 => ?_, hD.below b2, h2, ⟨?_, by omega, by rw [hp]; exact Nat.zero_le _⟩, ⟨by simp [Dsk.new], Nat.zero_le _, Nat.zero_le _⟩⟩, fun q hq => ?_, h1.kept.trans (b2.mono h1.size), fun hq => ?_, (b2.cell hgl).trans z⟩
  · have := hlt q hq
    have := hSr q hq2
    omega
  · rw [← h4]
    exact h2'.len
  · rcases List.mem_append.1 hq with h | h
    · exact h1.newO q (hSd q h)
    · exact Nat.le_trans h1.size (hSr q h)
  · rcases List.mem_append.1 hq with h | h
    · exact hg h
    · have := hSr g h
      simp only at hgl
      omega
theorem LPair.acted (h : LPair w0 w g d r n) (hn : n ≤ 1000) {kd : Nat} {i t y : Int} (ht : t ≤ 9223372036854775807) {sh : Bool} {kv : Value} {ks : List Bool} (hk : ∀ S : List Nat, (∀ q ∈ S, w0.heap.size ≤ q) → KeepAt w S kv ks) :
    Calls Tryz.prog 42 #[.pointer (some ⟨d, 0, none⟩), .pointer (some ⟨r, 0, none⟩), .agg #[.int .u8 (kd : Int), .int .i64 i, .int .i64 t, .int .u8 y, .bool sh, kv]] w fun e w' => (∃ b, e = .returned (.bool b)) ∧ LPair w0 w' g d r (n + 1) ∧ ∀ b cs, Blk w b 85 cs → Blk w' b 85 cs := by
  obtain ⟨S, a, c, e, f, z⟩ := h
  have hgl := World.block_lt_of_cell? w _ z
  simp only at hgl
  refine (acted_calls w a hn kd i t y ht sh kv ks (hk S c)).mono ?_
  rintro e' w' ⟨hr, S', a', c', k'⟩
  refine ⟨hr, ⟨S', a', fun q hq => ?_, below_keeps e k' e.size fun q hq => c q hq, fun hq => ?_, k'.cell z f⟩, fun b cs hb => hb.keeps k' fun hm => ?_⟩
  · rcases c' q hq with h | h
    · exact c q h
    · exact Nat.le_trans e.size h
  · rcases c' g hq with h | h
    · exact f h
    · omega
  · obtain ⟨D, D2, Sd, Sr, rfl, _, hd, hr2, _⟩ := a
    rcases List.mem_append.1 hm with h | h
    · exact hd.no (by decide) (by decide) (by decide) h hb
    · exact hr2.no (by decide) (by decide) (by decide) h hb
theorem LPair.crash (h : LPair w0 w g d r n) (hn : n ≤ 1000) :
    Calls Tryz.prog 25 #[.pointer (some ⟨d, 0, none⟩), .slice none 0 0] w fun e w' => e = .returned (.tuple #[]) ∧ ∃ D S, UpAt w0 w' g d (n + 1) D S := by
  obtain ⟨S, ⟨D, D2, Sd, Sr, rfl, hne, hd, hr, hl, hp⟩, c, e, f, z⟩ := h
  have hgl := World.block_lt_of_cell? w _ z
  simp only at hgl
  refine (crash_any w hd (by have := hl.2.1; omega) (by have := hl.2.2; omega) (.slice none 0 0) [] ⟨none, 0, rfl, by decide, fun k x h => by simp at h⟩).mono ?_
  rintro e' w' ⟨rfl, S', a', c', k'⟩
  have hcr := hl.crash (keepOf [])
  refine ⟨rfl, _, S', a', fun q hq => ?_, below_keeps e k' e.size fun q hq => c q (List.mem_append_left _ hq), fun hq => ?_, k'.cell z fun hm => f (List.mem_append_left _ hm), ⟨rfl, rfl⟩, hcr.1, hcr.2.1, rfl⟩
  · rcases c' q hq with h | h
    · exact c q (List.mem_append_left _ h)
    · exact Nat.le_trans e.size h
  · rcases c' g hq with h | h
    · exact f (List.mem_append_left _ h)
    · omega
/-- The power goes; the bools lie in a block that is no block of the store's. -/
theorem play_crash2 (h : Play m w0 g d s r n w) {v : Value} {ks : List Bool} (hk : ∀ S : List Nat, (∀ q ∈ S, ∀ t cs, Blk w q t cs → t = 100 ∨ t = 94 ∨ t = 89 ∨ t = 138 ∨ t = 31) → KeepAt w S v ks) :
    Calls Tryz.prog 25 #[.pointer (some ⟨d, 0, none⟩), v] w fun e w' => e = .returned (.tuple #[]) ∧ Crashed m w0 g d s r n w' ∧ Below w0.heap.size w0 w' := by
  obtain ⟨Y, Q, bp, O, S, bv, h1, h2, h3, h4, h5, h6⟩ := h
  have hl := h2.dlife
  have h100 := h2.m100
  have hp := h2.pend
  refine (ston_crash h1.sto (by show Y.disk.life ≤ _; omega) (by show Y.disk.pending.length ≤ _; rw [hp]; exact Nat.zero_le _) v ks (hk O h1.ltO)).mono ?_
  rintro e w' ⟨rfl, hs⟩
  have hsz : w.heap.size ≤ w'.heap.size := by
    obtain ⟨_, _, _, k⟩ := hs
    exact k.size
  obtain ⟨O', b1, b2, k⟩ := h1.sto_step hs h1.nod fun q hq => ⟨(h1.qs q hq).1, Nat.lt_of_lt_of_le (h1.qs q hq).2 hsz⟩
  exact ⟨rfl, ⟨Y, Q, bp, O', S, bv, _, b1, h2, h3.2, h4, h5.keeps k fun q hq t cs hb => (h1.foot_no q (.inr (.inr (.inl hq))) t cs hb).1, _, rfl⟩, b1.kept⟩
theorem keep_true {b : Nat} (h : Blk w b 4 #[.bool true]) : ∀ S : List Nat, (∀ q ∈ S, ∀ t cs, Blk w q t cs → t = 100 ∨ t = 94 ∨ t = 89 ∨ t = 138 ∨ t = 31) → KeepAt w S (.slice (some ⟨b, 0, none⟩) 1 1) [true] := by
  intro S hS
  refine ⟨some ⟨b, 0, none⟩, 1, rfl, by decide, fun k x hk => ⟨⟨b, 0, none⟩, rfl, fun hm => ?_, ?_⟩⟩
  · rcases hS b hm _ _ h with e | e | e | e | e
    all_goals exact absurd e (by decide)
  · have hk0 : k = 0 := by
      have := (List.getElem?_eq_some_iff.1 hk).1
      simpa using this
    subst hk0
    simp only [List.getElem?_cons_zero, Option.some.injEq] at hk
    subst hk
    exact h.cell 0
end

end Go.Proofs.YtbgiklkpinflaaaGreat

namespace Go.Proofs.YtbgiklkpinflaaaGreat
open Go.RowKit Go.Shelf Go.Maps
attribute [local go_sem ↓] Go.wp_at_zero Go.wp_at_succ

set_option maxRecDepth 100000 in
set_option maxHeartbeats 8000000 in
theorem fresh_calls (w : World) (A : Option Addr) (n c : Nat) (hA : OpArg w A n) (B : Option Addr) (m cm : Nat) (hB : ActArg w B m) :
    Calls Tryz.prog 9 #[.slice A n c, .slice B m cm] w fun e w' => e = .returned (.bool true) ∧ Below w.heap.size w w' := by
  have HL := Lib.hid (laid_bench (n := 10) (w0 := w) w (by omega) (by omega) (Nat.le_refl _) (Below.refl _ _))
  have HA := Lib.hid hA
  have HB := Lib.hid hB
  have hmax := hA.1
  have hmax2 := hB.1
  unfold maxLen at hmax hmax2
  clear hA hB
  by_cases hbig : 20 < n ∨ 20 < m
  · by_cases h20 : 20 < n
    all_goals
      first
        | (have t1 : decide ((20 : Int) < n) = true := by simp; omega)
        | (have t1 : decide ((20 : Int) < n) = false := by simp; omega
           have t2 : decide ((20 : Int) < m) = true := by simp; omega)
      clear hbig h20
      go_enter Tryz.func9, Tryz.ntmps9
      go_wp2_with (first
        | (go_at_call 11; refine HL.out.mono ?_; rintro e w1 ⟨g, d, s, r, rfl, hl1, hg1, hb1⟩; have HB1 := Lib.hid hb1; clear hl1 hb1)
        | (go_at_call 12; refine (awake_calls _).mono ?_; rintro e w4 ⟨rfl, hb4⟩; have HB4 := Lib.hid hb4; clear hb4))
      go_ret
      exact ⟨rfl, HB1.out.trans (HB4.out.mono HB1.out.size)⟩
  · have t1 : decide ((20 : Int) < n) = false := by simp; omega
    have t2 : decide ((20 : Int) < m) = false := by simp; omega
    have hn20 : n ≤ 20 := by omega
    have hm20 : m ≤ 20 := by omega
    clear hbig
    go_enter Tryz.func9, Tryz.ntmps9
    go_wp2_with (go_at_call 11; refine HL.out.mono ?_; rintro e w1 ⟨g, d, s, r, rfl, hl1, hg1, hb1⟩; have HP1 := Lib.hid hl1.play; clear hl1 hb1)
    clear HL
    go_loopw [39] (fun x wr => ∃ k : Nat, k ≤ n ∧ x = .int .i64 k ∧ Play k w g d s r 10 wr) (fun x _ => n - (intOf x).toNat)
    case atStart => exact ⟨0, Nat.zero_le _, rfl, HP1.out⟩
    case round =>
      obtain ⟨k, hk, rfl, hM⟩ := hrel
      by_cases hlt : k < n
      · have tk : decide ((k : Int) < (n : Int)) = true := by simp; omega
        obtain ⟨gb, go, rfl, hrow⟩ := HA.out.2 k hlt
        obtain ⟨kd, key, qn, y, q0, q1, q2, q3, hks, hqn, hy⟩ := hrow.below hM.kept
        have HMA : Hid (∀ o, Play k w g d s r 10 (wr.alloc o)) := fun o => hM.below ((Below.refl _ wr).alloc (Nat.le_refl _) o)
        clear hM hrow
        go_wp2_with (go_at_call 13; refine ((HMA.out _).do_ (by omega) kd key qn y hks hqn hy).mono ?_; rintro e w3 ⟨rfl, hp3⟩; have HP3 := Lib.hid hp3; clear hp3)
        go_roundw
        case rel => exact ⟨k + 1, by omega, by go_num, HP3.out⟩
        case measure => simp [intOf]; omega
      · have hkn : k = n := by omega
        have tk : decide ((k : Int) < (n : Int)) = false := by simp; omega
        obtain ⟨wo, hwo⟩ : ∃ wo : World, wo = wr := ⟨_, rfl⟩
        subst hwo
        have HN := Lib.hid (Ref.newDisk_good (w.heap.size ≤ ·) 10 wo (by omega) (by omega) fun _ h => Nat.le_trans hM.kept.size h)
        have HM := Lib.hid hM
        clear hM HP1
        go_wp2_with (go_at_call 41; refine HN.out.mono ?_; rintro e w2 ⟨rfl, ⟨Sr, hr, hSr⟩, hb2⟩; have HP2 := Lib.hid (lpair_new HM.out (by omega) hr hSr hb2); clear hr hSr hb2)
        clear HN HM
        go_loopw [53] (fun x wy => ∃ j : Nat, j ≤ m ∧ x = .int .i64 j ∧ LPair w wy g d wo.heap.size (k + j)) (fun x _ => m - (intOf x).toNat)
        case atStart => exact ⟨0, Nat.zero_le _, rfl, HP2.out⟩
        case round =>
          obtain ⟨j, hj, rfl, hM⟩ := hrel
          by_cases hlt : j < m
          · have tj : decide ((j : Int) < (m : Int)) = true := by simp; omega
            obtain ⟨gb, go, rfl, hrow⟩ := HB.out.2 j hlt
            obtain ⟨kd, i, t, y, sh, kv, ks, q0, q1, q2, q3, q4, q5, ht, hkk⟩ := hrow.below hM.old
            obtain ⟨Ak, nk, ck, rfl⟩ : ∃ A n c, kv = .slice A n c := by
              obtain ⟨A, c, rfl, _⟩ := hkk [] (fun _ h => by simp at h)
              exact ⟨_, _, _, rfl⟩
            have HM := Lib.hid hM
            have HK := Lib.hid hkk
            have HPD : Hid (LPair w (wr.alloc (.cells #[.int .u8 (kd : Int), .int .i64 i, .int .i64 t, .int .u8 y, .bool sh, .slice Ak nk ck] 85)).drew g d wo.heap.size (k + j)) := hM.below (((Below.refl _ wr).alloc (Nat.le_refl _) _).drew_)
            have HKS : Hid (∀ S : List Nat, (∀ q ∈ S, w.heap.size ≤ q) → KeepAt (wr.alloc (.cells #[.int .u8 (kd : Int), .int .i64 i, .int .i64 t, .int .u8 y, .bool sh, .slice Ak nk ck] 85)).drew S (.slice Ak nk ck) ks) := fun S hS => KeepAt.keeps (S := []) (T := S) (HK.out S hS) (Keeps.of_below (((Below.refl _ wr).alloc (Nat.le_refl _) _).drew_))
            have hbx : Blk (wr.alloc (.cells #[.int .u8 (kd : Int), .int .i64 i, .int .i64 t, .int .u8 y, .bool sh, .slice Ak nk ck] 85)).drew wr.heap.size 85 #[.int .u8 (kd : Int), .int .i64 i, .int .i64 t, .int .u8 y, .bool sh, .slice Ak nk ck] := (Blk.new wr _ _).drew
            have xg := HPD.out.cell
            have x0 := hbx.cell 0
            have x1 := hbx.cell 1
            have x2 := hbx.cell 2
            have x3 := hbx.cell 3
            have x4 := hbx.cell 4
            have x5 := hbx.cell 5
            have HBXX := Lib.hid hbx
            clear hM hkk hrow hbx
            go_wp2
            go_region_held3 (fun w' => w'.cell? ⟨g, 0, none⟩ = some (.pointer (some ⟨d, 0, none⟩)) ∧ w'.cell? ⟨wr.heap.size, 0, none⟩ = some (.int .u8 (kd : Int)) ∧ w'.cell? ⟨wr.heap.size, 1, none⟩ = some (.int .i64 i) ∧ w'.cell? ⟨wr.heap.size, 2, none⟩ = some (.int .i64 t) ∧ w'.cell? ⟨wr.heap.size, 3, none⟩ = some (.int .u8 y) ∧ w'.cell? ⟨wr.heap.size, 4, none⟩ = some (.bool sh) ∧ w'.cell? ⟨wr.heap.size, 5, none⟩ = some (.slice Ak nk ck)) ((first | exact ⟨xg, x0, x1, x2, x3, x4, x5⟩ | exact ⟨yg, y0, y1, y2, y3, y4, y5⟩ | go_keep))
              ((first
                | (go_at_call 42; refine (HPD.out.acted (by omega) ht HKS.out).mono ?_; rintro e w3 ⟨⟨ab, rfl⟩, hp3, hk3⟩; have b3 := hk3 _ _ HBXX.out; have yg := hp3.cell; have y0 := b3.cell 0; have y1 := b3.cell 1; have y2 := b3.cell 2; have y3 := b3.cell 3; have y4 := b3.cell 4; have y5 := b3.cell 5; have HP3 := Lib.hid hp3; clear hp3 hk3 b3)))
            all_goals
              go_wp2
              go_roundw
              case rel => exact ⟨j + 1, by omega, by go_num, HP3.out⟩
              case measure => simp [intOf]; omega
          · obtain rfl : j = m := by omega
            have tj : decide ((j : Int) < (j : Int)) = false := by simp
            have hg0 := hM.cell
            have HM := Lib.hid hM
            clear hM
            go_wp2_with (first
              | (go_at_call 25; refine (HM.out.crash (by omega)).mono ?_; rintro e w3 ⟨rfl, D, S, hU⟩; have u0 : w3.cell? ⟨g, 0, none⟩ = some (.pointer (some ⟨d, 0, none⟩)) := hU.2.2.2.2.1; have HU := Lib.hid hU; clear hU)
              | (go_at_call 43; refine (fresh_format HU.out.2.2.1.size HU.out.1 HU.out.2.1 HU.out.2.2.2.2.2.1 HU.out.2.2.2.2.2.2.1 (Nat.le_trans HU.out.2.2.2.2.2.2.2.1 (by omega)) (by rw [HU.out.2.2.2.2.2.2.2.2]; exact Nat.zero_le _)).mono ?_; rintro e w4 ⟨s4, O4, rfl, hs4, hO4, hk4⟩; have u4 : w4.cell? ⟨g, 0, none⟩ = some (.pointer (some ⟨d, 0, none⟩)) := hk4.cell u0 HU.out.2.2.2.1; have HS4 := Lib.hid hs4; have HO4 := Lib.hid hO4; have HB4 : Hid (Below w.heap.size w w4) := below_keeps HU.out.2.2.1 hk4 HU.out.2.2.1.size HU.out.2.1; clear hs4 hO4 hk4))
            have hbw : Below w4.heap.size w4 w4.drew := (Below.refl _ _).drew_
            go_region_held3 (fun w' => w'.cell? ⟨g, 0, none⟩ = some (.pointer (some ⟨d, 0, none⟩))) ((first | exact u4 | exact u5 | go_keep))
              ((first
                | (go_at_call 44; refine (refFormat2 10 _).mono ?_; rintro e w5 ⟨rfl, hr5, hb5⟩; have hb45 : Below w4.heap.size w4 w5 := hbw.trans hb5; have u5 : w5.cell? ⟨g, 0, none⟩ = some (.pointer (some ⟨d, 0, none⟩)) := (hb45.cell (World.block_lt_of_cell? _ _ u4)).trans u4; have HR5 : Hid (RefAt w5 w4.heap.size (RSto.new 10) [w4.heap.size]) := hr5; have HB45 := Lib.hid hb45; clear hr5 hb5 hb45)))
            obtain ⟨w6, hw6⟩ : ∃ w6 : World, w6 = w5.alloc (.cells #[.pointer (some ⟨d, 0, none⟩), .pointer (some ⟨s4, 0, none⟩), .pointer (some ⟨w4.heap.size, 0, none⟩), .slice none 0 0] 39) := ⟨_, rfl⟩
            rw [← hw6]
            have hb56 : Below w5.heap.size w5 w6 := by rw [hw6]; exact (Below.refl _ _).alloc (Nat.le_refl _) _
            have hbx : Blk w6 w5.heap.size 39 #[.pointer (some ⟨d, 0, none⟩), .pointer (some ⟨s4, 0, none⟩), .pointer (some ⟨w4.heap.size, 0, none⟩), .slice none 0 0] := by rw [hw6]; exact Blk.new w5 _ _
            have hb46 : Below w4.heap.size w4 w6 := HB45.out.trans (hb56.mono HB45.out.size)
            have hb6 : Below w.heap.size w w6 := HB4.out.trans (hb46.mono HB4.out.size)
            have hu6 : w6.cell? ⟨g, 0, none⟩ = some (.pointer (some ⟨d, 0, none⟩)) := (hb46.cell (World.block_lt_of_cell? _ _ u4)).trans u4
            have hgl : g < w6.heap.size := World.block_lt_of_cell? _ _ hu6
            have hP : Play (k + j + 1) w w5.heap.size d s4 w4.heap.size 10 w6 := fresh_play hb6.size hb6 (HS4.out.below hb46) HO4.out (HR5.out.below hb56) hbx HB4.out.size (Nat.le_trans HB4.out.size HB45.out.size) HU.out.2.2.2.2.2.1 HU.out.2.2.2.2.2.2.1 HU.out.2.2.2.2.2.2.2.1 (by omega)
            have HP7 : Hid (Play (k + j + 1) w w5.heap.size d s4 w4.heap.size 10 (w6.alloc (.cells #[.bool true] 4))) := hP.below ((Below.refl _ _).alloc (Nat.le_refl _) _)
            have HKB : Hid (Blk (w6.alloc (.cells #[.bool true] 4)) w6.heap.size 4 #[.bool true]) := Blk.new w6 _ _
            clear hw6 hb56 hbx hb46 hb6 hP HB45 HR5 HB4 HS4 HO4 HU u4 u5 hbw u0 hg0 HM HP2 HA HB
            go_wp2_with (first
              | (go_at_call 25; refine (play_crash2 HP7.out (keep_true HKB.out)).mono ?_; rintro e w8 ⟨rfl, hc4, hb4⟩; obtain ⟨gen, An, ne, cn, hcl, hop⟩ := crashed_opened hc4 (by omega); obtain ⟨c2, c3, c4⟩ := hcl _ (Below.refl _ _); have HOP := Lib.hid hop; clear hcl hop hc4 hb4)
              | (go_at_call 26; refine (HOP.out _ (Below.refl _ _) 0 none 0 0).mono ?_; rintro e w9 ⟨g2, s2, r2, rfl, hc5, hp5⟩; have HC5 := Lib.hid hc5; have HP5 := Lib.hid hp5; clear hc5 hp5)
              | (go_at_call 27; refine (crashed_dead HC5.out).mono ?_; rintro e w10 ⟨rfl, hb6⟩; have HP6 := Lib.hid (HP5.out.below hb6); clear hb6)
              | (go_at_call 24; refine HP6.out.fits.mono ?_; rintro e w11 ⟨rfl, hp6⟩; have HP8 := Lib.hid hp6; clear hp6)
              | (go_at_call 12; refine (awake_calls _).mono ?_; rintro e w12 ⟨rfl, hb7⟩; have HB7 := Lib.hid hb7; clear hb7))
            go_ret
            exact ⟨rfl, (HP8.out.below HB7.out).kept⟩

end Go.Proofs.YtbgiklkpinflaaaGreat

namespace Go.Proofs.YtbgiklkpinflaaaGreat.storeFresh
open Go.ChangeShapes Go.WideShapes Go.ChangeAt Go.RowKit
open Go.ChangeMaps (open_string shut_string)
set_option linter.unusedVariables false

theorem own : ownKnob Tryz.prog.godebug = none := by kernel_rfl
theorem laidOut : laidOutB Tryz.prog = true := by kernel_rfl

set_option maxRecDepth 100000 in
theorem lifted (os : Os) (started : os.Started) (H : Type) (enc : TypeId × Value → H) :
    ReturnsInHanded {} Tryz.checked os 9 .any (Rows.storeFreshSpec.pre6 enc Tryz.prog Tryz.f9 Rows.storeFreshRow.domain false) (Rows.storeFreshSpec.post enc Tryz.prog Tryz.f9 false true false false) := by
  refine returnsInHanded_of_change (C := Tryz.checked) own started (by kernel_rfl) Tryz.func9
    (ChangeSpec.witness6 (enc := enc) (C := Tryz.checked) false ⟨#[], #[.slice none 0 0, .slice none 0 0], []⟩ 8 (by kernel_rfl) (by kernel_rfl) (by kernel_rfl) (by kernel_rfl)) ?_
  intro W base args ds gs before hval0 hW hcnd _
  have hval : ∀ (j : Nat) t v, Tryz.f9.params[j]? = some t → args[j]? = some v → Value.okWide Tryz.prog W .any base t v := hval0
  have hW' := hW
  obtain ⟨p, q, hA0, hV, rfl, hfz, hnd⟩ := hW
  have hA : DataW.TrodAll enc Tryz.prog W 0 (fun _ => true) true Tryz.f9.params.toList args.toList ds p := hA0
  rw [Tryz.params9] at hA hval
  obtain ⟨v0, vs0, d0, ds0, p0, q0, hargs, rfl, rfl, h0, r0⟩ := trodAll_cons hA
  obtain ⟨v1, vs1, d1, ds1, p1, q1, rfl, rfl, rfl, h1, r1⟩ := trodAll_cons r0
  obtain ⟨rfl, rfl, rfl⟩ := trodAll_nil r1
  obtain rfl : args = #[v0, v1] := by cases args; simp_all
  obtain ⟨rfl, rfl⟩ := trodVars_none hV
  obtain ⟨a0, len0, cap0, rfl⟩ := okWide_slice Tryz.underlying22 (hval 0 22 v0 rfl rfl)
  obtain ⟨a1, len1, cap1, rfl⟩ := okWide_slice Tryz.underlying80 (hval 1 80 v1 rfl rfl)
  have k0 := h0
  have k1 := h1
  have lt0 : ∀ x ∈ p0, x.block < W.heap.size := by obtain ⟨m, hm⟩ := k0; exact DataW.trod_lt m _ _ _ hm
  have lt1 : ∀ x ∈ p1, x.block < W.heap.size := by obtain ⟨m, hm⟩ := k1; exact DataW.trod_lt m _ _ _ hm
  clear hA0 hval0
  refine (Go.Proofs.YtbgiklkpinflaaaGreat.fresh_calls W a0 len0 cap0 (Go.Proofs.YtbgiklkpinflaaaGreat.opArg_of h0) a1 len1 cap1 (Go.Proofs.YtbgiklkpinflaaaGreat.actArg_of h1)).mono fun e W' ⟨he, bel⟩ => ?_
  subst he
  exact ⟨_, rfl, _, _, _, [], _, [], hW', trodAll_mk1 (shut_bool Tryz.underlying4 _), (trodAll_cons_mk (Below.trod laidOut (by kernel_rfl) (of_decide_eq_true (by kernel_rfl)) k0 bel lt0) (trodAll_cons_mk (Below.trod laidOut (by kernel_rfl) (of_decide_eq_true (by kernel_rfl)) k1 bel lt1) trodAll_mk0)), rfl, bel.frame _, fun h => by cases h⟩

theorem over : Rows.storeFreshRow.holds Tryz.pinned (OpenSpec.ofChange Rows.storeFreshSpec) :=
  OpenClaim.holds_of_wide 9 Tryz.f9 rfl rfl rfl rfl rfl rfl rfl ⟨rfl, rfl, rfl, rfl, rfl⟩ rfl rfl rfl rfl rfl (by kernel_rfl) Tryz.func9 (by kernel_rfl)
    (of_decide_eq_true (by kernel_rfl)) (by unfold Func.isWrapper; first | (rw [if_pos (by decide +kernel)]; kernel_rfl) | (rw [if_neg (by decide +kernel)]; exact ⟨rfl, rfl⟩))
    (fun os started H enc _ => lifted os started H enc)

/-- The statement. -/
theorem proved : Rows.StoreFreshSaid := over
#print axioms proved
end Go.Proofs.YtbgiklkpinflaaaGreat.storeFresh
