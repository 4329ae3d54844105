/- Spoil: the walk that goes through. -/
import Derived.Test.YtbgiklkpinflaaaRefC
namespace Go.Proofs.Ytbgiklkpinflaaa
open Go.RowKit Go.Shelf
attribute [local go_sem ↓] Go.wp_at_zero Go.wp_at_succ

set_option maxRecDepth 100000 in
set_option maxHeartbeats 4000000 in
theorem spoil_good {P : Nat → Prop} {b : Nat} {D : Dsk} {g1 : Nat} {cur1 : Array Value} {pv : Value} {ps : List (Nat × Value)} (w : World) (h : DiskRep P w b D g1 cur1 pv ps) (ho : DskOk D) (hd : D.down = false) (hn : D.pending.length ≤ 1000000)
    (i k : Nat) (y : Int) (hi : i < D.blocks.length) (hk : k < 256) :
    Calls Try.prog 52 #[.pointer (some ⟨b, 0, none⟩), .int .i64 (i : Int), .int .i64 (k : Int), .int .u8 y] w fun e w' => e = .returned (.int .i64 0) ∧ After P w w' b (D.spoil i k y).2 (b :: g1 :: pv.ownBlock.toList) := by
  have hs := ho.some_
  have hf := ho.few
  have h3 : ∀ o, (w.alloc o).cell? ⟨b, 3, none⟩ = some (.bool false) := fun o => by rw [← hd]; exact Lib.cell?_alloc_some _ h.c3
  have h0 : ∀ o, (w.alloc o).cell? ⟨b, 0, none⟩ = some (.slice (some ⟨g1, 0, none⟩) D.blocks.length cur1.size) := fun o => Lib.cell?_alloc_some _ h.c0
  have HD : Hid (∀ o, Calls Try.prog 55 #[.pointer (some ⟨b, 0, none⟩)] (w.alloc o) fun e w' => e = .returned (.bool false) ∧ w.alloc o = w') := fun o => down_any b _ _ _ false _ (h0 o) hs hf (h3 o)
  obtain ⟨A1, c1, rfl, hp1⟩ := PenSlice.of_own h.own h.pslen
  have h1 : ∀ o, (w.alloc o).cell? ⟨b, 1, none⟩ = some (.slice A1 ps.length c1) := fun o => Lib.cell?_alloc_some _ h.c1
  have hpl := h.pslen
  have hpsr : ps.length ≤ 1000000 := by omega
  have t1 : decide ((i : Int) < 0) = false := by simp
  have t2 : decide ((D.blocks.length : Int) ≤ (i : Int)) = false := by simp; omega
  have t3 : decide ((k : Int) < 0) = false := by simp
  have t4 : decide ((256 : Int) ≤ (k : Int)) = false := by simp; omega
  have HR := Lib.hid h
  have HO := Lib.hid ho
  have HP := Lib.hid hp1
  clear hp1 h ho
  go_enter Try.func52, Try.ntmps52
  go_wp2_with (go_at_call 55; refine (HD.out _).mono ?_; rintro e w1 ⟨rfl, rfl⟩)
  go_quiet (fail)
  have hB0 : Below w.heap.size w ((w.alloc (.cells #[.int .i64 (i : Int)] 3)).drewN nq) := ((Below.refl _ w).alloc (Nat.le_refl _) _).drewN_ nq
  have hbs : Blk ((w.alloc (.cells #[.int .i64 (i : Int)] 3)).drewN nq) w.heap.size 3 #[.int .i64 (i : Int)] := (Blk.new w _ _).drewN nq
  obtain ⟨W0, hW0⟩ : ∃ W0, W0 = (w.alloc (.cells #[.int .i64 (i : Int)] 3)).drewN nq := ⟨_, rfl⟩
  rw [← hW0] at hB0 hbs ⊢
  have e1 : W0.cell? ⟨b, 1, none⟩ = some (.slice A1 ps.length c1) := by rw [hW0]; exact h1 _
  have hR0 : DiskRep P W0 b D g1 cur1 (.slice A1 ps.length c1) ps := HR.out.keepsB hB0 (Nat.le_refl _)
  have HR0 := Lib.hid hR0
  have HBS := Lib.hid hbs
  have HB0 := Lib.hid hB0
  clear hW0 h0 h1 h3 hR0 hbs hB0
  go_wp2
  go_loopw [10, 38] (fun _ x wr => ∃ j : Nat, j ≤ ps.length ∧ x = .int .i64 j ∧ Crashing P W0 b D (hits D i) g1 cur1 (.slice A1 ps.length c1) ps j wr) (fun _ x _ => ps.length - (intOf x).toNat)
  case atStart => exact ⟨0, Nat.zero_le _, rfl, cur1, rfl, HR0.out, Keeps.refl _ _⟩
  case round =>
    obtain ⟨j, hj, rfl, hset⟩ := hrel
    have hbr : Blk wr w.heap.size 3 #[.int .i64 (i : Int)] := by
      obtain ⟨cur, _, hr, hkk⟩ := hset
      exact HBS.out.keeps hkk (HBS.out.ne_ HR0.out.hg (by decide))
    have qs : wr.cell? ⟨w.heap.size, 0, none⟩ = some (.int .i64 (i : Int)) := hbr.cell 0
    have qsa : ∀ o, (wr.alloc o).cell? ⟨w.heap.size, 0, none⟩ = some (.int .i64 (i : Int)) := fun o => Lib.cell?_alloc_some _ qs
    by_cases hlt : j < ps.length
    · obtain ⟨gp, rfl, _, hpen⟩ := HP.out (by omega)
      obtain ⟨q1, q2⟩ := hset.pen_at hlt rfl
      obtain ⟨cur, hcs, hr, hkk⟩ := id hset
      obtain ⟨l, hpk, hB⟩ := hr.pen_at j hlt
      obtain ⟨gx, cx, _, hvx, _⟩ := id hB
      have hpk' : D.pending[j]? = some ((pen ps j).1, l) := hpk
      have q3 := hr.c0
      simp only [settleIf_length] at q3
      have q4 := hr.hg.frozen i
      obtain ⟨go, no, co, q5⟩ := hset.has hi
      have HX := Lib.hid hvx
      rw [hvx] at q2
      have q3a : ∀ o, (wr.alloc o).cell? ⟨b, 0, none⟩ = some (.slice (some ⟨g1, 0, none⟩) D.blocks.length cur.size) := fun o => Lib.cell?_alloc_some _ q3
      have q5a : ∀ o, (wr.alloc o).cell? ⟨g1, i, none⟩ = some (.slice go no co) := fun o => Lib.cell?_alloc_some _ q5
      have q4a : ∀ o, (wr.alloc o).frozen? ⟨g1, i, none⟩ = false := fun o => by rw [World.frozen?_alloc_old _ _ _ (Nat.ne_of_lt hr.hg.lt)]; exact q4
      have HS := Lib.hid hset
      have tk : decide ((j : Int) < (ps.length : Int)) = true := by simp; omega
      have hht : hits D i j = ((pen ps j).1 == i) := by unfold hits; rw [hpk']; rfl
      have HHT := Lib.hid hht
      clear hset hpk hpk' hvx hB hr hkk hcs hpen hht hbr
      by_cases he : (pen ps j).1 = i
      · have he2 : (((pen ps j).1 : Int) == (i : Int)) = true := by simp [he]
        have hf2 : hits D i j = true := by rw [HHT.out]; simpa using he
        have HE := Lib.hid he
        clear he
        go_wp2
        go_region
        all_goals
          go_wp2
          go_roundw
          case rel =>
            have hst := HS.out.step hf2 hlt HO.out (.cells #[.int .i64 ((pen ps j).1 : Int), (pen ps j).2] 109)
            rw [HX.out] at hst
            rw [HE.out] at hst ⊢
            exact ⟨j + 1, by omega, by go_num, hst⟩
          case measure => simp [intOf]; omega
      · have he2 : (((pen ps j).1 : Int) == (i : Int)) = false := by rw [beq_eq_false_iff_ne]; omega
        have hf2 : hits D i j = false := by rw [HHT.out]; simpa using he
        clear he
        go_wp2
        go_roundw
        case rel => exact ⟨j + 1, by omega, by go_num, HS.out.skip hf2 _⟩
        case measure => simp [intOf]; omega
    · obtain rfl : j = ps.length := by omega
      have tk : decide ((ps.length : Int) < ps.length) = false := by simp
      obtain ⟨cur, hcs, hr, hkk⟩ := hset
      rw [hpl, settleIf_spoil D hi] at hr
      have q1 := hr.c1
      have HRJ := Lib.hid hr
      have HBR := Lib.hid hbr
      have HKK := Lib.hid hkk
      have hDl := delete_rep hr hpsr hbr
      have HDl := Lib.hid hDl
      clear hr hbr hkk hDl
      go_upto_region 14 with (go_at_call 74; refine HDl.out.mono ?_; rintro e w3 ⟨A3, n3, c3, ps3, rfl, hob, hk3, hr3⟩; have HR3 := Lib.hid hr3; have HK3 := Lib.hid hk3; have HOB := Lib.hid hob; have z1 : ∃ v, w3.cell? ⟨b, 1, none⟩ = some v := ⟨_, (HRJ.out.hb.keeps hk3 HRJ.out.ne2).cell 1⟩; obtain ⟨v3, z1⟩ := z1; have zf := (HRJ.out.hb.keeps hk3 HRJ.out.ne2).frozen 1; clear hr3 hk3 hob)
      have HOK : Hid (Value.ownBlock (.slice A1 D.pending.length c1) ≠ some w.heap.size) := own_blk_ne HRJ.out.own HBR.out (by decide)
      obtain ⟨W4, hW4⟩ : ∃ W4, W4 = w3.setCell ⟨b, 1, none⟩ (.slice A3 n3 c3) := ⟨_, rfl⟩
      have hbi4 : Blk W4 w.heap.size 3 #[.int .i64 (i : Int)] := by rw [hW4]; exact (HBR.out.keeps HK3.out HOK.out).far (p := ⟨b, 1, none⟩) (HBR.out.ne_ HRJ.out.hb (by decide)) _
      have hr4 := HR3.out
      have HW4 := Lib.hid hW4
      rw [← hW4] at hr4 ⊢
      clear hW4
      obtain ⟨vq, hvq, hBq⟩ := hr4.bl i (D.see i) (by rw [List.getElem?_set_self hi])
      obtain ⟨gq, cq, curq, rfl, _, _, _, hcq⟩ := hBq.cells
      have HCQ := Lib.hid hcq
      have q40 := hr4.c0
      simp only [List.length_set] at q40
      have q4i : W4.cell? ⟨w.heap.size, 0, none⟩ = some (.int .i64 (i : Int)) := hbi4.cell 0
      have q4g : W4.cell? ⟨g1, i, none⟩ = some (.slice (some ⟨gq, 0, none⟩) (D.see i).length cq) := (hr4.hg.cell i).trans hvq
      have f4g := hr4.hg.frozen i
      have HSL := Lib.hid (Ref.see_length HO.out hi)
      have hl2 : (D.see i).length ≤ 70368744177664 := by rw [HSL.out]; decide
      have HR4 := Lib.hid hr4
      have HBI4 := Lib.hid hbi4
      clear hr4 hbi4 hcq hBq hvq
      obtain ⟨l4, hl4⟩ : ∃ l4, l4 = D.see i := ⟨_, rfl⟩
      rw [← hl4] at q4g hl2 HSL HCQ
      have HL4 := Lib.hid hl4
      clear hl4
      go_cut [] from 64 to 77 (fun wx => ∃ w5 g5 cap5, wx = w5.setCell ⟨g1, i, none⟩ (.slice (some ⟨g5, 0, none⟩) l4.length cap5) ∧ Keeps (fun _ => False) W4 w5 ∧ BytesAt (W4.heap.size ≤ ·) w5 (.slice (some ⟨g5, 0, none⟩) l4.length cap5) l4)
      case first =>
        go_region_law
          (go_simp; go_at_call 31; refine (clone_bytes gq 0 l4.length cq l4 _ rfl hl2 ?_).mono ?_; exact HCQ.out; rintro e w5 ⟨g5, cap5, rfl, hB5, hbel5⟩; have HB5 := Lib.hid hB5; have HK5 : Hid (Keeps (fun _ => False) W4 w5) := Keeps.of_belowD hbel5; have q50 := HK5.out.cell q40 id; have q5i := HK5.out.cell q4i id; have q5g := HK5.out.cell q4g id; have f5g := (HR4.out.hg.keeps HK5.out id).frozen i; clear hB5 hbel5)
        all_goals
          go_wp2_with fail
          go_meet
          exact ⟨_, _, _, rfl, HK5.out, HB5.out⟩
      case rest =>
        obtain ⟨w5, g5, cap5, rfl, hk5, hb5⟩ := hcut
        have hr4 := HR4.out
        rw [← HL4.out] at hr4
        have HR4L := Lib.hid hr4
        have HB5L := Lib.hid hb5
        obtain ⟨g5', cap5', cur5, hv5, hq5, hb5', _, _, hs5, ht5⟩ := hb5
        injection hv5 with ha _ hc5
        injection ha with ha
        injection ha with ha _ _
        subst ha hc5
        obtain ⟨W6, hW6⟩ : ∃ W6, W6 = w5.setCell ⟨g1, i, none⟩ (.slice (some ⟨g5, 0, none⟩) l4.length cap5) := ⟨_, rfl⟩
        have hg16 := (hr4.hg.keeps hk5 id).set_ i (.slice (some ⟨g5, 0, none⟩) l4.length cap5)
        have hb6 := (hr4.hb.keeps hk5 id).far (p := ⟨g1, i, none⟩) hr4.ne1 (.slice (some ⟨g5, 0, none⟩) l4.length cap5)
        have hi6 := (HBI4.out.keeps hk5 id).far (p := ⟨g1, i, none⟩) (HBI4.out.ne_ hr4.hg (by decide)) (.slice (some ⟨g5, 0, none⟩) l4.length cap5)
        have h56 := hb5'.far (p := ⟨g1, i, none⟩) (fun e => by have := hr4.hg.lt; have e : g5 = g1 := e; omega) (.slice (some ⟨g5, 0, none⟩) l4.length cap5)
        rw [← hW6] at hg16 hb6 hi6 h56
        have s0 : W6.cell? ⟨b, 0, none⟩ = some (.slice (some ⟨g1, 0, none⟩) D.blocks.length cur.size) := by have := hb6.cell 0; simpa using this
        have si : W6.cell? ⟨w.heap.size, 0, none⟩ = some (.int .i64 (i : Int)) := hi6.cell 0
        have sg : W6.cell? ⟨g1, i, none⟩ = some (.slice (some ⟨g5, 0, none⟩) l4.length cap5) := (hg16.cell i).trans (by have := hr4.le; simp at this; rw [Array.getElem?_setIfInBounds_self_of_lt]; omega)
        have hl4 : l4.length = 256 := HSL.out
        obtain ⟨x8, hx8⟩ : ∃ x : Int, x = ((l4[k]?.getD 0).toNat : Int) := ⟨_, rfl⟩
        have sk : W6.cell? ⟨g5, k, none⟩ = some (.int .u8 x8) := (h56.cell k).trans (by
          rw [hx8]
          have hk4 : k < l4.length := by omega
          have := congrArg (fun z => z[k]?) ht5
          simp only [List.getElem?_take, if_pos hk4, List.getElem?_map, List.getElem?_eq_getElem hk4, Array.getElem?_toList] at this
          rw [this, List.getElem?_eq_getElem hk4]
          rfl)
        have sf := h56.frozen k
        rw [hl4] at sg
        have HW6 := Lib.hid hW6
        rw [← hW6]
        clear hW6 hg16 hb6 hi6 h56 hl4 ht5 hs5 hb5' hr4
        have HKW : Hid (Keeps (fun q => q = b ∨ q = g1 ∨ (Value.slice A1 D.pending.length c1).ownBlock = some q) w W4) := by
          have ka : Keeps (fun q => q = b ∨ q = g1 ∨ (Value.slice A1 D.pending.length c1).ownBlock = some q) w W0 := Keeps.of_below HB0.out
          have kb := ka.trans HKK.out fun q _ h => .inr (.inl h)
          have kc := kb.trans HK3.out fun q _ h => .inr (.inr h)
          rw [HW4.out]
          exact kc.setCell (p := ⟨b, 1, none⟩) (fun _ => .inl rfl) _
        have HEND := Lib.hid (spoil_end (y := y) HR4L.out hk5 HB5L.out HO.out hi hd hk HL4.out HKW.out HOB.out)
        rw [← hx8, ← HW6.out] at HEND
        clear hx8
        go_wp2
        go_region
        all_goals
          go_wp2
          go_ret
          have hend := HEND.out.drew_
          rw [← hpl] at hend
          exact ⟨rfl, hend⟩

end Go.Proofs.Ytbgiklkpinflaaa
