/- Open; a bench that is opened again. StoreOpens: a loss of power under the bench; the bench that is opened again; the elder one is dead. -/
import Derived.Test.YtbgiklkpinflaaaGreatReF
import Derived.Test.YtbgiklkpinflaaaGreatOpenD
import Derived.Deep.Slices
import Derived.Deep.Fields
import Derived.Deep.Grids

namespace Go.Proofs.YtbgiklkpinflaaaGreat
open Go.RowKit Go.Shelf Go.Maps
attribute [local go_sem ↓] Go.wp_at_zero Go.wp_at_succ

theorem StateAt.gen_ {w : World} {a mb : Nat} {st : St} (h : StateAt w a mb st) : w.cell? ⟨a, 0, none⟩ = some (.int .i64 (st.gen : Int)) := by
  obtain ⟨sv, hb, _⟩ := h
  exact hb.cell 0
theorem open_end {w wb : World} {d : Nat} {D : Dsk} {st : St} {a mb : Nat} (hW : Below w.heap.size w wb) (hst : StateAt wb a mb st) (n : Nat) :
    ∃ s a' mb', Ending.returned (.tuple #[.pointer (some ⟨wb.heap.size, 0, none⟩), .int .i64 0]) = .returned (.tuple #[.pointer (some ⟨s, 0, none⟩), .int .i64 0]) ∧ Blk ((wb.drewN n).alloc (.cells #[.pointer (some ⟨d, 0, none⟩), .int .i64 (D.life : Int), .pointer (some ⟨a, 0, none⟩), .slice none 0 0, .bool false, .map none, .map none] 100)) s 100 #[.pointer (some ⟨d, 0, none⟩), .int .i64 (D.life : Int), .pointer (some ⟨a', 0, none⟩), .slice none 0 0, .bool false, .map none, .map none] ∧ StateAt ((wb.drewN n).alloc (.cells #[.pointer (some ⟨d, 0, none⟩), .int .i64 (D.life : Int), .pointer (some ⟨a, 0, none⟩), .slice none 0 0, .bool false, .map none, .map none] 100)) a' mb' st ∧ w.heap.size ≤ s ∧
      Below w.heap.size w ((wb.drewN n).alloc (.cells #[.pointer (some ⟨d, 0, none⟩), .int .i64 (D.life : Int), .pointer (some ⟨a, 0, none⟩), .slice none 0 0, .bool false, .map none, .map none] 100)) := by
  have hb : Below wb.heap.size wb ((wb.drewN n).alloc (.cells #[.pointer (some ⟨d, 0, none⟩), .int .i64 (D.life : Int), .pointer (some ⟨a, 0, none⟩), .slice none 0 0, .bool false, .map none, .map none] 100)) := ((Below.refl _ wb).drewN_ n).alloc (by simp) _
  refine ⟨wb.heap.size, a, mb, rfl, ?_, hst.below hb, hW.size, hW.trans (hb.mono hW.size)⟩
  have := Blk.new (wb.drewN n) 100 #[.pointer (some ⟨d, 0, none⟩), .int .i64 (D.life : Int), .pointer (some ⟨a, 0, none⟩), .slice none 0 0, .bool false, .map none, .map none]
  simpa using this
set_option maxRecDepth 100000 in
set_option maxHeartbeats 4000000 in
/-- The walk of Open. -/
theorem open_walk {P : Nat → Prop} {d : Nat} {D : Dsk} {S : List Nat} (w : World) (hD : DiskAt P w d D S) (hdn : D.down = false) (hpen : D.pending.length ≤ 1000000000) (h2 : 2 ≤ D.blocks.length) (h5 : D.blocks.length ≤ 1024) {st : St} (hst : openOf D = some st) (hg8 : ∀ i, i < 2 → numAt (D.see i) 4 8 < 9223372036854775808) :
    Calls Tryz.prog 36 #[.pointer (some ⟨d, 0, none⟩)] w fun e w' => ∃ s a mb, e = .returned (.tuple #[.pointer (some ⟨s, 0, none⟩), .int .i64 0]) ∧ Blk w' s 100 #[.pointer (some ⟨d, 0, none⟩), .int .i64 (D.life : Int), .pointer (some ⟨a, 0, none⟩), .slice none 0 0, .bool false, .map none, .map none] ∧ StateAt w' a mb st ∧ w.heap.size ≤ s ∧ Below w.heap.size w w' := by
  have HL : Hid (∀ wx, Below w.heap.size w wx → ∀ i, i < 2 → Calls Tryz.prog 87 #[.pointer (some ⟨d, 0, none⟩), .int .i64 ((i : Nat) : Int)] wx (LoadPost wx (loadOf D i))) := fun wx hb i hi => load_calls wx (hD.below hb) hdn hpen h2 h5 i hi (hg8 i hi)
  have HD := Lib.hid hD
  have HDW := Lib.hid (down_at hD)
  rw [hdn] at HDW
  obtain ⟨R0, hR0⟩ : ∃ R0, R0 = loadOf D 0 := ⟨_, rfl⟩
  obtain ⟨R1, hR1⟩ : ∃ R1, R1 = loadOf D 1 := ⟨_, rfl⟩
  unfold openOf at hst
  rw [← hR0, ← hR1] at hst
  have H0 := Lib.hid hR0
  have H1 := Lib.hid hR1
  have HST := Lib.hid hst
  clear hst hR0 hR1 hD hdn hpen h2 h5 hg8
  go_enter Tryz.func36, Tryz.ntmps36
  go_wp2_with (go_at_call 82; refine HDW.out.mono ?_; rintro e w1 ⟨rfl, rfl⟩)
  go_wp2_with fail
  refine (HL.out w (Below.refl _ _) 0 (by decide)).mono ?_
  rintro e wa ⟨hba, hca⟩
  rw [← H0.out] at hca
  have HBA := Lib.hid hba
  rcases hca with ⟨hn0, rfl⟩ | ⟨sa, a, ma, hs0, rfl, hsa, hla, _⟩
  · have HN0 := Lib.hid hn0
    clear hba hn0
    go_wp2_with fail
    refine (HL.out wa HBA.out 1 (by decide)).mono ?_
    rintro e wb ⟨hbb, hcb⟩
    rw [← H1.out] at hcb
    have HBB := Lib.hid hbb
    have HW : Hid (Below w.heap.size w wb) := HBA.out.trans (hbb.mono HBA.out.size)
    have y4 : wb.cell? ⟨d, 4, none⟩ = some (.int .i64 (D.life : Int)) := DiskAt.life_ (HD.out.below HW.out)
    rcases hcb with ⟨hn1, rfl⟩ | ⟨sb, b, mb, hs1, rfl, hsb, hlb, _⟩
    · have := HST.out
      rw [HN0.out, hn1] at this
      cases this
    · have hsb2 : sb = st := by
        have := HST.out
        rw [HN0.out, hs1] at this
        injection this
      subst hsb2
      have HSB := Lib.hid hsb
      have hsz := HW.out.size
      clear hbb hs1 hsb
      go_wp2
      go_quiet (fail)
      go_wp2
      go_ret2
      exact open_end HW.out HSB.out _
  · have HS0 := Lib.hid hs0
    have HSA := Lib.hid hsa
    clear hba hs0 hsa
    go_wp2_with fail
    refine (HL.out wa HBA.out 1 (by decide)).mono ?_
    rintro e wb ⟨hbb, hcb⟩
    rw [← H1.out] at hcb
    have HBB := Lib.hid hbb
    have HW : Hid (Below w.heap.size w wb) := HBA.out.trans (hbb.mono HBA.out.size)
    have HSA2 := Lib.hid (HSA.out.below hbb)
    have y4 : wb.cell? ⟨d, 4, none⟩ = some (.int .i64 (D.life : Int)) := DiskAt.life_ (HD.out.below HW.out)
    have hsz := HW.out.size
    rcases hcb with ⟨hn1, rfl⟩ | ⟨sb, b, mb, hs1, rfl, hsb, hlb, _⟩
    · have hsa2 : sa = st := by
        have := HST.out
        rw [HS0.out, hn1] at this
        injection this
      subst hsa2
      clear hbb hn1
      go_wp2
      go_quiet (fail)
      go_wp2
      go_ret2
      exact open_end HW.out HSA2.out _
    · have HSB := Lib.hid hsb
      have ga : wb.cell? ⟨a, 0, none⟩ = some (.int .i64 (sa.gen : Int)) := HSA2.out.gen_
      have gb : wb.cell? ⟨b, 0, none⟩ = some (.int .i64 (sb.gen : Int)) := hsb.gen_
      have hpick : (if sa.gen < sb.gen then some sb else some sa) = some st := by
        have := HST.out
        rw [HS0.out, hs1] at this
        exact this
      clear hbb hs1 hsb
      by_cases hg : sa.gen < sb.gen
      · rw [if_pos hg] at hpick
        have tg : decide ((sa.gen : Int) < (sb.gen : Int)) = true := by simp; omega
        have hst2 : sb = st := by injection hpick
        clear hpick
        obtain ⟨gna, hgna⟩ : ∃ gna, gna = sa.gen := ⟨_, rfl⟩
        obtain ⟨gnb, hgnb⟩ : ∃ gnb, gnb = sb.gen := ⟨_, rfl⟩
        rw [← hgna] at ga tg hg
        rw [← hgnb] at gb tg hg
        have HEQ := Lib.hid hst2
        clear hgna hgnb hst2
        go_wp2
        go_quiet (fail)
        go_wp2
        go_ret2
        exact open_end HW.out (HEQ.out ▸ HSB.out) _
      · rw [if_neg hg] at hpick
        have tg : decide ((sa.gen : Int) < (sb.gen : Int)) = false := by simp; omega
        have hst2 : sa = st := by injection hpick
        clear hpick
        obtain ⟨gna, hgna⟩ : ∃ gna, gna = sa.gen := ⟨_, rfl⟩
        obtain ⟨gnb, hgnb⟩ : ∃ gnb, gnb = sb.gen := ⟨_, rfl⟩
        rw [← hgna] at ga tg hg
        rw [← hgnb] at gb tg hg
        have HEQ := Lib.hid hst2
        clear hgna hgnb hst2
        go_wp2
        go_quiet (fail)
        go_wp2
        go_ret2
        exact open_end HW.out (HEQ.out ▸ HSA2.out) _

/-- The bench behind Open. -/
theorem bn_opened {w0 w w2 w4 : World} {g d s r g2 s2 r2 a mb : Nat} {X : Sto} {Q : List PinPlace} {R R2 : RSto} {bp O S : List Nat} {bv : Value} {st : St} (h : Bn w0 w g d s r X Q R bp O S bv) (hs : Blk w2 s2 100 #[.pointer (some ⟨d, 0, none⟩), .int .i64 (X.disk.life : Int), .pointer (some ⟨a, 0, none⟩), .slice none 0 0, .bool false, .map none, .map none])
    (hst : StateAt w2 a mb st) (hs2 : w.heap.size ≤ s2) (hb2 : Below w.heap.size w w2) (hb4 : Below w2.heap.size w2 w4) (hr : RefAt w4 r2 R2 [r2]) (hr2 : w.heap.size ≤ r2) (hbn : BenchAt w4 g2 d s2 r2 (.slice none 0 0)) (hg2 : w.heap.size ≤ g2) :
    ∃ O2, Bn w0 w4 g2 d s2 r2 (openedSto X.disk st) [] R2 [] O2 [r2] (.slice none 0 0) := by
  obtain ⟨Sd, hD, hSd⟩ := h.sto.disk_at
  have hb : Below w.heap.size w w4 := hb2.trans (hb4.mono hb2.size)
  refine ⟨_, Nat.le_trans h.size hb.size, h.kept.trans (hb.mono h.size), StoParts.n_ (X := openedSto X.disk st) (T := []) (Sd := Sd) (pv := .slice none 0 0) (pins := []) ⟨hs.below hb4 hs.lt, hD.below hb, hst.below hb4, ⟨⟨rfl, .inl ⟨rfl, rfl⟩⟩, rfl, by simp⟩, .inl ⟨rfl, rfl, rfl, rfl⟩, by simp, by simp⟩, List.nodup_nil, fun q hq => by simp at hq, hr, hbn, ⟨rfl, .inl ⟨rfl, rfl⟩⟩, fun k hk => by simp [Value.ownBlock] at hk, fun k hk => ?_, fun k hk => ?_, Nat.le_trans h.size hg2⟩
  · simp only [List.mem_cons, List.mem_append, List.not_mem_nil, false_or, Option.mem_toList] at hk
    rcases hk with rfl | hk | hk
    · exact Nat.le_trans h.size hs2
    · exact h.newO k (hSd k hk)
    · simp [Value.ownBlock] at hk
  · have hk : k = r2 := by simpa using hk
    rw [hk]
    exact Nat.le_trans h.size hr2
set_option maxRecDepth 100000 in
set_option maxHeartbeats 4000000 in
theorem reopen_now {m : Nat} {w0 w : World} {g d s r : Nat} {X : Sto} {Q : List PinPlace} {R : RSto} {bp O S : List Nat} {bv vn vm : Value} {now : RSt} {mg : Int} {Y' : Joint} (h : Bn w0 w g d s r X Q R bp O S bv) (hdn : X.disk.down = false) (hpen : X.disk.pending.length ≤ 1000000000) (h2 : 2 ≤ X.disk.blocks.length) (h5 : X.disk.blocks.length ≤ 1024)
    (hvn : EntsAt Any w vn now.ents) (hvm : ∃ A n c, vm = .slice A n c) (hY : Ok m Y') (hop : openOf X.disk = some Y'.now.st) (hg8 : ∀ i, i < 2 → numAt (X.disk.see i) 4 8 < 9223372036854775808) (hsto : Y'.sto = openedSto X.disk Y'.now.st) (href : Y'.ref = R.again now) :
    Calls Tryz.prog 26 #[.pointer (some ⟨g, 0, none⟩), .agg #[.int .i64 (now.gen : Int), vn], .agg #[.int .i64 mg, vm], .bool false] w fun e w' => ∃ g2 s2 r2 O2, e = .returned (.tuple #[.pointer (some ⟨g2, 0, none⟩), .bool true]) ∧ Bn w0 w' g2 d s2 r2 Y'.sto [] Y'.ref [] O2 [r2] (.slice none 0 0) ∧ Below w.heap.size w w' := by
  obtain ⟨Sd, hD, _⟩ := h.sto.disk_at
  have HO : Hid (∀ wx, Below w.heap.size w wx → Calls Tryz.prog 36 #[.pointer (some ⟨d, 0, none⟩)] wx fun e w' => ∃ s a mb, e = .returned (.tuple #[.pointer (some ⟨s, 0, none⟩), .int .i64 0]) ∧ Blk w' s 100 #[.pointer (some ⟨d, 0, none⟩), .int .i64 (X.disk.life : Int), .pointer (some ⟨a, 0, none⟩), .slice none 0 0, .bool false, .map none, .map none] ∧ StateAt w' a mb Y'.now.st ∧ wx.heap.size ≤ s ∧ Below wx.heap.size wx w') := fun wx hb => open_walk wx (hD.below hb) hdn hpen h2 h5 hop hg8
  have HA : Hid (∀ wx, Below w.heap.size w wx → Calls Tryz.prog 80 #[.pointer (some ⟨r, 0, none⟩), .agg #[.int .i64 (now.gen : Int), vn]] wx fun e w' => ∃ r', e = .returned (.pointer (some ⟨r', 0, none⟩)) ∧ RefAt w' r' (R.again now) [r'] ∧ wx.heap.size ≤ r' ∧ Below wx.heap.size wx w') := fun wx hb => again_calls (h.ref.below hb) (hvn.below hb)
  obtain ⟨An, cn, rfl⟩ := hvn.slice
  obtain ⟨Am, nm, cm, rfl⟩ := hvm
  obtain ⟨on, hon⟩ : ∃ on : Obj, on = .cells #[.int .i64 (now.gen : Int), .slice An now.ents.length cn] 46 := ⟨_, rfl⟩
  obtain ⟨om, hom⟩ : ∃ om : Obj, om = .cells #[.int .i64 mg, .slice Am nm cm] 46 := ⟨_, rfl⟩
  have hbn : Blk (w.alloc on) w.heap.size 46 #[.int .i64 (now.gen : Int), .slice An now.ents.length cn] := by rw [hon]; exact Blk.new w _ _
  have hb1 : Below w.heap.size w ((w.alloc on).alloc om) := ((Below.refl _ w).alloc (Nat.le_refl _) _).alloc (by simp) _
  have HC : Hid (∀ wx, Below (w.heap.size + 1) (w.alloc on) wx → wx.cell? ⟨g, 0, none⟩ = some (.pointer (some ⟨d, 0, none⟩)) ∧ wx.cell? ⟨g, 2, none⟩ = some (.pointer (some ⟨r, 0, none⟩)) ∧ wx.cell? ⟨w.heap.size, 0, none⟩ = some (.int .i64 (now.gen : Int)) ∧ wx.cell? ⟨w.heap.size, 1, none⟩ = some (.slice An now.ents.length cn)) := fun wx hb => by
    have hx := (Blk.alloc h.bench on).below hb (by have := Blk.lt h.bench; omega)
    have hy := hbn.below hb (by omega)
    exact ⟨hx.cell 0, hx.cell 2, hy.cell 0, hy.cell 1⟩
  have hB1 : Below (w.heap.size + 1) (w.alloc on) ((w.alloc on).alloc om) := (Below.refl _ (w.alloc on)).alloc (by simp) om
  obtain ⟨d0, d2, d3, d4⟩ := HC.out _ hB1
  have HB1 := Lib.hid hb1
  have HBB := Lib.hid hB1
  have HH := Lib.hid h
  have HY := Lib.hid hY
  have HST := Lib.hid hsto
  have HRF := Lib.hid href
  clear h hvn hD hop hg8 hsto href hY hdn hpen h2 h5 hbn hb1 hB1
  subst hon hom
  go_enter Tryz.func26, Tryz.ntmps26
  go_wp2_with (go_at_call 36; go_loud (refine (HO.out _ HB1.out).mono ?_; rintro e w2 ⟨s2, a, mb, rfl, hs, hst, hle, hb2⟩; have HS := Lib.hid hs; have HSS := Lib.hid hst; have HLE : Hid (w.heap.size ≤ s2) := (Nat.le_trans HB1.out.size hle); have HB2 : Hid (Below w.heap.size w w2) := HB1.out.trans (hb2.mono HB1.out.size); have HBB2 : Hid (Below (w.heap.size + 1) (w.alloc (.cells #[.int .i64 (now.gen : Int), .slice An now.ents.length cn] 46)) w2) := HBB.out.trans (hb2.mono (by simp)); obtain ⟨e0, e2, e3, e4⟩ := HC.out _ HBB2.out; clear hs hst hle hb2))
  have f0 : w2.drew.cell? ⟨g, 0, none⟩ = some (.pointer (some ⟨d, 0, none⟩)) := e0
  have f2 : w2.drew.cell? ⟨g, 2, none⟩ = some (.pointer (some ⟨r, 0, none⟩)) := e2
  have f3 : w2.drew.cell? ⟨w.heap.size, 0, none⟩ = some (.int .i64 (now.gen : Int)) := e3
  have f4 : w2.drew.cell? ⟨w.heap.size, 1, none⟩ = some (.slice An now.ents.length cn) := e4
  go_region_held3 (fun w' => w'.cell? ⟨g, 0, none⟩ = some (.pointer (some ⟨d, 0, none⟩)) ∧ w'.cell? ⟨g, 2, none⟩ = some (.pointer (some ⟨r, 0, none⟩)) ∧ w'.cell? ⟨w.heap.size, 0, none⟩ = some (.int .i64 (now.gen : Int)) ∧ w'.cell? ⟨w.heap.size, 1, none⟩ = some (.slice An now.ents.length cn)) ((first | exact HY3.out _ | go_keep))
    ((first
      | (go_at_call 80; refine (HA.out _ (HB2.out.drew_)).mono ?_; rintro e w3 ⟨r2, rfl, hr, hle3, hb3⟩; have HR := Lib.hid hr; have HLE3 : Hid (w.heap.size ≤ r2) := (Nat.le_trans HB2.out.size hle3); have HB23 : Hid (Below w2.heap.size w2 w3) := ((Below.refl _ w2).drew_).trans (hb3.mono (Nat.le_refl _)); have HBB3 : Hid (Below (w.heap.size + 1) (w.alloc (.cells #[.int .i64 (now.gen : Int), .slice An now.ents.length cn] 46)) w3) := HBB2.out.trans (HB23.out.mono (by have := HBB2.out.size; rw [World.size_alloc] at this; omega)); obtain ⟨i0, i2, i3, i4⟩ := HC.out _ HBB3.out; have HY3 : Hid (∀ o, (w3.alloc o).cell? ⟨g, 0, none⟩ = some (.pointer (some ⟨d, 0, none⟩)) ∧ (w3.alloc o).cell? ⟨g, 2, none⟩ = some (.pointer (some ⟨r, 0, none⟩)) ∧ (w3.alloc o).cell? ⟨w.heap.size, 0, none⟩ = some (.int .i64 (now.gen : Int)) ∧ (w3.alloc o).cell? ⟨w.heap.size, 1, none⟩ = some (.slice An now.ents.length cn)) := fun o => HC.out _ (HBB3.out.alloc (by have := HBB3.out.size; rw [World.size_alloc] at this; omega) o); clear hr hle3 hb3)))
  all_goals
    go_wp2
    obtain ⟨W4, hW4⟩ : ∃ W4, W4 = w3.alloc (.cells #[.pointer (some ⟨d, 0, none⟩), .pointer (some ⟨s2, 0, none⟩), .pointer (some ⟨r2, 0, none⟩), .slice none 0 0] 39) := ⟨_, rfl⟩
    rw [← hW4]
    have hb34 : Below w3.heap.size w3 W4 := by rw [hW4]; exact (Below.refl _ w3).alloc (Nat.le_refl _) _
    have hb24 : Below w2.heap.size w2 W4 := HB23.out.trans (hb34.mono HB23.out.size)
    have hbn2 : BenchAt W4 w3.heap.size d s2 r2 (.slice none 0 0) := by rw [hW4]; exact Blk.new w3 _ _
    obtain ⟨O2, hBn⟩ := bn_opened HH.out HS.out HSS.out HLE.out HB2.out hb24 (HR.out.below hb34) HLE3.out hbn2 (Nat.le_trans HB2.out.size HB23.out.size)
    rw [← HST.out, ← HRF.out] at hBn
    have HBn := Lib.hid hBn
    have HB4 : Hid (Below w.heap.size w W4) := HB2.out.trans (hb24.mono HB2.out.size)
    have hsz4 : w.heap.size ≤ W4.heap.size := HB4.out.size
    clear hW4 hb34 hb24 hbn2 hBn i0 i2 i3 i4 e0 e2 e3 e4 f0 f2 f3 f4
    go_quiet (fail)
    go_wp2_with (go_at_call 24; refine (fits_calls (HBn.out.below ((Below.refl _ _).drewN_ _)) HY.out).mono ?_; rintro e w5 ⟨rfl, hb5⟩; have HB5 : Hid (Below W4.heap.size W4 w5) := ((Below.refl _ W4).drewN_ _).trans (hb5.mono (by simp)); clear hb5)
    go_ret2
    exact ⟨_, s2, r2, O2, rfl, HBn.out.below HB5.out, HB4.out.trans (HB5.out.mono hsz4)⟩

end Go.Proofs.YtbgiklkpinflaaaGreat

namespace Go.Proofs.YtbgiklkpinflaaaGreat
open Go.RowKit Go.Shelf Go.Maps
attribute [local go_sem ↓] Go.wp_at_zero Go.wp_at_succ

theorem numAt_root {g x : Nat} {b : List UInt8} (hg : g < 256 ^ 8) : numAt (rootOf g x b) 4 8 = g := by
  obtain ⟨Z, hZ⟩ := root_form g x b
  rw [hZ]
  have e : ∀ Y, rootHead g x b ++ Y = [65, 82, 67, 86] ++ (be g 8 ++ (be x 2 ++ (be b.length 4 ++ (be (crc b).toNat 4 ++ Y)))) := fun Y => by
    unfold rootHead
    simp only [List.append_assoc]
  rw [e]
  exact numAt_mid _ _ hg rfl
theorem rooted_gens {D : Dsk} {st : St} (h : Rooted D st) (hg : st.gen ≤ 4611686018427387904) : ∀ i, i < 2 → numAt (D.see i) 4 8 < 9223372036854775808 := by
  have h8 : (256 : Nat) ^ 8 = 18446744073709551616 := by decide
  have h1 : numAt (D.see (st.gen % 2)) 4 8 < 9223372036854775808 := by
    rw [h.root, numAt_root (by omega)]
    omega
  have h2 : numAt (D.see ((st.gen + 1) % 2)) 4 8 < 9223372036854775808 := by
    rcases h.other with e | ⟨g, x, b, hgl, e⟩
    · rw [e]
      have : numAt zeros 4 8 = 0 := by decide
      omega
    · rw [e, numAt_root (by omega)]
      omega
  intro i hi
  by_cases e : st.gen % 2 = i
  · rw [← e]
    exact h1
  · have e2 : (st.gen + 1) % 2 = i := by omega
    rw [← e2]
    exact h2

theorem keepAt_fresh {w w1 : World} {v : Value} {ks : List Bool} (h : KeepAt w [] v ks) (hb : Below w.heap.size w w1) {S : List Nat} (hS : ∀ q ∈ S, w.heap.size ≤ q) : KeepAt w1 S v ks := by
  obtain ⟨A, c, e, hl, hk⟩ := h
  refine ⟨A, c, e, hl, fun j x hj => ?_⟩
  obtain ⟨a, e1, _, e3⟩ := hk j x hj
  have hlt : (a.add j).block < w.heap.size := World.block_lt_of_cell? w _ e3
  exact ⟨a, e1, fun hm => by have := hS _ hm; rw [add_block] at hlt; omega, (hb.cell hlt).trans e3⟩
section
open Go.ChangeShapes Go.WideShapes Go.Deep
/-- Bools that came in. -/
theorem keepAt_of {H : Type} {enc : TypeId × Value → H} {w : World} {held : Bool} {fuel : Nat} {v : Value} {x : DataW H × List MemPlace} (h : DataW.trod enc Tryz.prog w 0 (fun _ => true) held fuel 59 [v] = some x) : ∃ ks, KeepAt w [] v ks := by
  rcases open_bools Tryz.underlying59 Tryz.underlying4 (by kernel_rfl) h with ⟨hcs, _⟩ | ⟨a, len, cap, B, hcs, _, hl, hm, _, hc⟩
  · simp only [List.cons.injEq, and_true] at hcs
    subst hcs
    exact ⟨[], none, 0, rfl, by decide, fun k x h => by simp at h⟩
  · simp only [List.cons.injEq, and_true] at hcs
    subst hcs
    refine ⟨(List.range len).map B, some a, cap, by simp, ?_, fun k x h => ?_⟩
    · have : maxLen ≤ 9223372036854775807 := by unfold maxLen; omega
      simp only [List.length_map, List.length_range]
      omega
    · simp only [List.getElem?_map] at h
      have hk : k < len := by
        rcases Nat.lt_or_ge k len with h' | h'
        · exact h'
        · rw [List.getElem?_eq_none (by simpa using h')] at h; cases h
      rw [List.getElem?_range hk] at h
      simp only [Option.map_some, Option.some.injEq] at h
      subst h
      exact ⟨a, rfl, by simp, hc k (by omega)⟩
end
/-- A bench whose disk has lost its power. -/
def Crashed (m : Nat) (w0 : World) (g d s r n : Nat) (w : World) : Prop :=
  ∃ Y Q bp O S bv D', Bn w0 w g d s r { Y.sto with disk := D' } Q Y.ref bp O S bv ∧ Ok m Y ∧ Rooted Y.disk Y.now.st ∧ Y.n = n ∧ PinsRel w Y.pins Q bp ∧ ∃ f, D' = Y.disk.crash f
section
variable {m : Nat} {w0 w w' : World} {g d s r n : Nat}
theorem Crashed.below (h : Crashed m w0 g d s r n w) (hb : Below w.heap.size w w') : Crashed m w0 g d s r n w' := by
  obtain ⟨Y, Q, bp, O, S, bv, D', h1, h2, h3, h4, h5, h6⟩ := h
  exact ⟨Y, Q, bp, O, S, bv, D', h1.below hb, h2, h3, h4, h5.keeps (F := fun _ => False) (Keeps.of_below hb) (fun _ h => h.elim), h6⟩
theorem Play.bench_ (h : Play m w0 g d s r n w) : w.cell? ⟨g, 0, none⟩ = some (.pointer (some ⟨d, 0, none⟩)) := by
  obtain ⟨Y, Q, bp, O, S, bv, h1, _⟩ := h
  exact Blk.cell h1.bench 0
theorem PlayA.more {Ar : Nat → Prop} {k : Nat} (h : PlayA Ar m w0 g d s r n w) (hk : m ≤ k) (h100 : k ≤ 100) : PlayA Ar k w0 g d s r n w := by
  obtain ⟨Y, Q, bp, O, S, bv, h1, h2, h3, h4, h5, h6⟩ := h
  exact ⟨Y, Q, bp, O, S, bv, h1, h2.mono hk h100, h3, h4, h5, h6⟩
theorem play_crash (h : Play m w0 g d s r n w) {v : Value} {ks : List Bool} (hk : ∀ S : List Nat, (∀ q ∈ S, w0.heap.size ≤ q) → KeepAt w S v ks) :
    Calls Tryz.prog 25 #[.pointer (some ⟨d, 0, none⟩), v] w fun e w' => e = .returned (.tuple #[]) ∧ Crashed m w0 g d s r n w' ∧ Below w0.heap.size w0 w' := by
  obtain ⟨Y, Q, bp, O, S, bv, h1, h2, h3, h4, h5, h6⟩ := h
  have hl := h2.dlife
  have h100 := h2.m100
  have hp := h2.pend
  refine (ston_crash h1.sto (by show Y.disk.life ≤ _; omega) (by show Y.disk.pending.length ≤ _; rw [hp]; exact Nat.zero_le _) v ks (hk O h1.newO)).mono ?_
  rintro e w' ⟨rfl, hs⟩
  have hsz : w.heap.size ≤ w'.heap.size := by
    obtain ⟨_, _, _, k⟩ := hs
    exact k.size
  obtain ⟨O', b1, b2, k⟩ := h1.sto_step hs h1.nod fun q hq => ⟨(h1.qs q hq).1, Nat.lt_of_lt_of_le (h1.qs q hq).2 hsz⟩
  exact ⟨rfl, ⟨Y, Q, bp, O', S, bv, _, b1, h2, h3.2, h4, h5.keeps k fun q hq t cs hb => (h1.foot_no q (.inr (.inr (.inl hq))) t cs hb).1, _, rfl⟩, b1.kept⟩
/-- Opened again. -/
theorem crashed_opened (h : Crashed m w0 g d s r n w) (hm : m + 1 ≤ 100) : ∃ (gen : Nat) (An : Option Addr) (ne cn : Nat),
    (∀ wx, Below w.heap.size w wx → wx.cell? ⟨g, 2, none⟩ = some (.pointer (some ⟨r, 0, none⟩)) ∧ wx.cell? ⟨r, 1, none⟩ = some (.int .i64 (gen : Int)) ∧ wx.cell? ⟨r, 2, none⟩ = some (.slice An ne cn)) ∧
    ∀ wx, Below w.heap.size w wx → ∀ (mg : Int) (Am : Option Addr) (nm cm : Nat), Calls Tryz.prog 26 #[.pointer (some ⟨g, 0, none⟩), .agg #[.int .i64 (gen : Int), .slice An ne cn], .agg #[.int .i64 mg, .slice Am nm cm], .bool false] wx fun e w' => ∃ g2 s2 r2, e = .returned (.tuple #[.pointer (some ⟨g2, 0, none⟩), .bool true]) ∧ Crashed m w0 g d s r n w' ∧ Play (m + 1) w0 g2 d s2 r2 n w' := by
  have h' := h
  obtain ⟨Y, Q, bp, O, S, bv, D', h1, h2, h3, h4, h5, f, rfl⟩ := h
  obtain ⟨nv, xv, pv, qs, hrp, _⟩ := id h1.ref
  obtain ⟨An, cn, hnv⟩ := hrp.now.slice
  refine ⟨Y.now.gen, An, Y.ref.now.ents.length, cn, fun wx hb => ?_, fun wx hb mg Am nm cm => ?_⟩
  · have hb1 := Blk.below h1.bench hb (Blk.lt h1.bench)
    have hb2 := hrp.blk.below hb hrp.blk.lt
    rw [hnv] at hb2
    exact ⟨hb1.cell 2, hb2.cell 1, hb2.cell 2⟩
  · have hE : EntsAt Any wx (.slice An Y.ref.now.ents.length cn) Y.ref.now.ents := by
      rw [← hnv]
      exact hrp.now.below hb
    have hp := h2.pend
    have hcs := crash_still hp f
    have hlen : (Y.disk.crash f).blocks.length = Y.n := by
      rw [hcs]
      exact h2.len
    have hsee : ∀ b, (Y.disk.crash f).see b = Y.disk.see b := crash_still_see hp f
    have hok : Ok (m + 1) (Y.again (Y.disk.crash f)) := h2.again (Nat.le_succ m) hm hlen rfl rfl (by rw [hcs]; exact Nat.succ_le_succ h2.dlife) fun x _ b _ => hsee b
    have hroot : Rooted (Y.disk.crash f) Y.now.st := h3.same (by rw [hlen]; exact h2.len.symm) fun b _ => hsee b
    have hst : StOk (Y.disk.crash f).blocks.length Y.now.st := by
      rw [hlen, ← h2.len]
      exact h2.stNow
    have h4n := h2.n4
    have h5n := h2.n5
    refine (reopen_now (Y' := Y.again (Y.disk.crash f)) (now := Y.ref.now) (h1.below hb) rfl (Nat.zero_le _) (by show 2 ≤ (Y.disk.crash f).blocks.length; omega) (by show (Y.disk.crash f).blocks.length ≤ 1024; omega) hE ⟨Am, nm, cm, rfl⟩ hok (open_good hroot hst) (rooted_gens hroot hst.gen) rfl rfl).mono ?_
    rintro e w' ⟨g2, s2, r2, O2, rfl, hB, hb'⟩
    exact ⟨g2, s2, r2, rfl, (h'.below hb).below hb', Y.again (Y.disk.crash f), [], [], O2, [r2], _, hB, hok, ⟨by rw [hcs]; rfl, hroot⟩, h4, PinsRel.nil _, fun q hq => by simp [Joint.again] at hq⟩
theorem crashed_dead (h : Crashed m w0 g d s r n w) :
    Calls Tryz.prog 27 #[.pointer (some ⟨g, 0, none⟩)] w fun e w' => e = .returned (.bool true) ∧ Below w.heap.size w w' := by
  obtain ⟨Y, Q, bp, O, S, bv, D', h1, h2, h3, h4, h5, f, rfl⟩ := h
  have hcs := crash_still h2.pend f
  have hlen : (Y.disk.crash f).blocks.length = Y.disk.blocks.length := by rw [hcs]
  refine bench_dead h1 ?_ ?_ ?_ h2.few_pins (Nat.zero_le _) (fun p hp => ?_) ?_
  · show (Y.life != (Y.disk.crash f).life || (Y.disk.crash f).down) = true
    rw [hcs, h2.life]
    simp
  · show StOk (Y.disk.crash f).blocks.length Y.now.st
    rw [hlen]
    exact h2.stNow
  · intro x hx
    show StOk (Y.disk.crash f).blocks.length x
    rw [hlen]
    exact h2.stPins x hx
  · obtain ⟨i, hi⟩ := List.getElem?_of_mem hp
    have hil : i < Y.pins.length := by
      rw [← h5.len]
      exact (List.getElem?_eq_some_iff.1 hi).1
    have hJ := List.getElem?_eq_getElem hil
    obtain ⟨⟨J, held⟩, hJx⟩ : ∃ x, x = Y.pins[i] := ⟨_, rfl⟩
    rw [← hJx] at hJ
    cases held with
    | false => exact .inr (h5.off i p J hi hJ)
    | true =>
      obtain ⟨q, hq, rfl⟩ := h5.held i p J hi hJ
      have hsp : Y.sto.pins[heldTo Y.pins i]? = some J.st := by
        show ((heldJ Y.pins).map JSt.st)[_]? = _
        rw [List.getElem?_map, (heldJ_off hJ).2]
        rfl
      exact .inl ⟨_, _, _, h1.sto.snap hq hsp⟩
  · rw [h5.len]
    have := h2.pins
    have := h2.m100
    omega
end

set_option maxRecDepth 100000 in
set_option maxHeartbeats 8000000 in
theorem opens_calls (w : World) (A : Option Addr) (n c : Nat) (hA : OpArg w A n) (Ak : Option Addr) (nk ck : Nat) (ks : List Bool) (hk : KeepAt w [] (.slice Ak nk ck) ks) (t : Nat) (ht : t ≤ 255) :
    Calls Tryz.prog 6 #[.slice A n c, .slice Ak nk ck, .int .u8 (t : Int)] w fun e w' => e = .returned (.bool true) ∧ Below w.heap.size w w' := by
  obtain ⟨q, hq⟩ : ∃ q, q = t % 7 := ⟨_, rfl⟩
  have hq6 : q ≤ 6 := by omega
  have hmod : (t : Int) % 7 = (q : Int) := by omega
  obtain ⟨dv, hdv⟩ : ∃ m : Nat, (m : Int) = 2 + (q : Int) := ⟨2 + q, by simp⟩
  have hwr : IntKind.i64.wrap (2 + (q : Int)) = (dv : Int) := by rw [hdv]; exact IntWalk.i64_in _ (by omega)
  have hdv2 : 2 ≤ dv := by omega
  have HL := Lib.hid (laid_bench (n := 40) (w0 := w) w (by omega) (by omega) (Nat.le_refl _) (Below.refl _ _))
  have HA := Lib.hid hA
  have HK : Hid (∀ wx, Below w.heap.size w wx → ∀ S : List Nat, (∀ q ∈ S, w.heap.size ≤ q) → KeepAt wx S (.slice Ak nk ck) ks) := fun wx hb S hS => keepAt_fresh hk hb hS
  have hmax := hA.1
  unfold maxLen at hmax
  clear hA hdv hq hk
  by_cases hbig : 24 < n
  · have t2 : decide ((24 : Int) < n) = true := by simp; omega
    clear hbig
    go_enter Tryz.func6, Tryz.ntmps6
    go_wp2_with (first
      | (go_at_call 11; refine HL.out.mono ?_; rintro e w1 ⟨g, d, s, r, rfl, hl1, hg1, hb1⟩; have HB1 := Lib.hid hb1; clear hl1 hb1)
      | (go_at_call 12; refine (awake_calls _).mono ?_; rintro e w4 ⟨rfl, hb4⟩; have HB4 := Lib.hid hb4; clear hb4))
    go_ret
    exact ⟨rfl, HB1.out.trans (HB4.out.mono HB1.out.size)⟩
  · have t2 : decide ((24 : Int) < n) = false := by simp; omega
    have hn40 : n ≤ 24 := by omega
    clear hbig
    go_enter Tryz.func6, Tryz.ntmps6
    go_wp2_with (go_at_call 11; refine HL.out.mono ?_; rintro e w1 ⟨g, d, s, r, rfl, hl1, hg1, hb1⟩; have HP1 := Lib.hid hl1.play; clear hl1 hb1)
    go_loopw [7, 30] (fun v x wr => ∃ (k g s r : Nat), k ≤ n ∧ v = .pointer (some ⟨g, 0, none⟩) ∧ x = .int .i64 k ∧ Play (2 * k) w g d s r 40 wr) (fun _ x _ => n - (intOf x).toNat)
    case atStart => exact ⟨0, g, s, r, Nat.zero_le _, rfl, rfl, HP1.out⟩
    case round =>
      obtain ⟨k, g, s, r, hk, rfl, rfl, hM⟩ := hrel
      by_cases hlt : k < n
      · have tk : decide ((k : Int) < (n : Int)) = true := by simp; omega
        obtain ⟨gb, go, rfl, hrow⟩ := HA.out.2 k hlt
        obtain ⟨kd, key, qn, y, q0, q1, q2, q3, hks, hqn, hy⟩ := hrow.below hM.kept
        have HMA : Hid (∀ o, Play (2 * k) w g d s r 40 (wr.alloc o)) := fun o => hM.below ((Below.refl _ wr).alloc (Nat.le_refl _) o)
        obtain ⟨rm, hrm⟩ : ∃ rm, rm = k % dv := ⟨_, rfl⟩
        have hrm2 : (k : Int) % (dv : Int) = (rm : Int) := by rw [hrm]; exact (Int.natCast_emod _ _).symm
        clear hM hrow hrm
        by_cases hr0 : rm = 0
        · have tr : ((rm : Int) != 0) = false := by simp [hr0]
          go_wp2_with (first
            | (go_at_call 13; refine ((HMA.out _).do_ (by omega) kd key qn y hks hqn hy).mono ?_; rintro e w3 ⟨rfl, hp3⟩; have z0 := hp3.bench_; have HP3 := Lib.hid hp3; clear hp3)
            | (go_at_call 25; refine (play_crash HP3.out (HK.out _ HP3.out.kept)).mono ?_; rintro e w4 ⟨rfl, hc4, hb4⟩; obtain ⟨gen, An, ne, cn, hcl, hop⟩ := crashed_opened hc4 (by omega); obtain ⟨c2, c3, c4⟩ := hcl _ (Below.refl _ _); have HOP := Lib.hid hop; clear hcl hop hc4 hb4)
            | (go_at_call 26; refine (HOP.out _ (Below.refl _ _) 0 none 0 0).mono ?_; rintro e w5 ⟨g2, s2, r2, rfl, hc5, hp5⟩; have HC5 := Lib.hid hc5; have HP5 := Lib.hid hp5; clear hc5 hp5)
            | (go_at_call 27; refine (crashed_dead HC5.out).mono ?_; rintro e w6 ⟨rfl, hb6⟩; have HP6 := Lib.hid (HP5.out.below hb6); clear hb6))
          go_roundw
          case rel => exact ⟨k + 1, g2, s2, r2, by omega, rfl, by go_num, HP6.out⟩
          case measure => simp [intOf]; omega
        · have tr : ((rm : Int) != 0) = true := by simp; omega
          go_wp2_with (go_at_call 13; refine ((HMA.out _).do_ (by omega) kd key qn y hks hqn hy).mono ?_; rintro e w3 ⟨rfl, hp3⟩; have HP3 := Lib.hid hp3; clear hp3)
          go_roundw
          case rel => exact ⟨k + 1, g, s, r, by omega, rfl, by go_num, HP3.out.more (by omega) (by omega)⟩
          case measure => simp [intOf]; omega
      · obtain rfl : k = n := by omega
        have tk : decide ((k : Int) < (k : Int)) = false := by simp
        have HM := Lib.hid hM
        clear hM
        go_wp2_with (first
          | (go_at_call 12; refine (awake_calls _).mono ?_; rintro e w7 ⟨rfl, hb7⟩; have HB7 := Lib.hid hb7; clear hb7)
          | (go_at_call 24; refine HM.out.fits.mono ?_; rintro e w6 ⟨rfl, hp6⟩; have HP6 := Lib.hid hp6; clear hp6))
        go_ret
        exact ⟨rfl, (HP6.out.below HB7.out).kept⟩

end Go.Proofs.YtbgiklkpinflaaaGreat
