/- load. -/
import Derived.Test.YtbgiklkpinflaaaGreatOpenE
namespace Go.Proofs.YtbgiklkpinflaaaGreat
open Go.RowKit Go.Shelf Go.Maps
attribute [local go_sem ↓] Go.wp_at_zero Go.wp_at_succ

set_option maxRecDepth 100000 in
set_option maxHeartbeats 20000000 in
theorem load_calls {P : Nat → Prop} {d : Nat} {D : Dsk} {S : List Nat} (w : World) (hD : DiskAt P w d D S) (hdn : D.down = false) (hpen : D.pending.length ≤ 1000000000) (h2 : 2 ≤ D.blocks.length) (h5 : D.blocks.length ≤ 1024) (i : Nat) (hi : i < 2) (hg8 : numAt (D.see i) 4 8 < 9223372036854775808) :
    Calls Tryz.prog 87 #[.pointer (some ⟨d, 0, none⟩), .int .i64 (i : Int)] w (LoadPost w (loadOf D i)) := by
  obtain ⟨R, hR⟩ : ∃ R, R = loadOf D i := ⟨_, rfl⟩
  rw [← hR]
  have hrd : D.read (i : Int) = (0, D.see i) := by
    unfold Dsk.read
    rw [hdn, if_neg (by simp), if_neg (by omega)]
    rfl
  have hln : (D.see i).length = 256 := Dsk.see_length hD.1 (by omega)
  unfold loadOf at hR
  obtain ⟨B, hB⟩ : ∃ B, B = D.see i := ⟨_, rfl⟩
  rw [← hB] at hrd hln hR hg8
  have HR := Lib.hid hR
  have HRD := Lib.hid hrd
  have HLN := Lib.hid hln
  have HD := Lib.hid hD
  have HDN := Lib.hid hdn
  have HG8 := Lib.hid hg8
  clear hB hR hrd hln hD hdn hg8
  have hmm := @run_makeMap Tryz.prog
  obtain ⟨ii, hii, hiz0, hiz1, hiz2⟩ := info_parts Tryz.infoInt
  go_enter Tryz.func87, Tryz.ntmps87
  go_wp2_with (go_at_call 91; refine (read_any _ HD.out hpen _).mono ?_; rw [HRD.out]; rintro e w1 ⟨v1, rfl, hgot, hb1⟩; have HB1 := Lib.hid hb1; have hgot : Got w.heap.size w1 v1 B := hgot; obtain ⟨g, cap, cur, rfl, hcap, _, _, hc1⟩ := (hgot.resolve_left fun h => by have := HLN.out; rw [h.2] at this; cases this).cells; have hcap : 256 ≤ cap := (by have := HLN.out; omega); rw [HLN.out]; have HC1 := Lib.hid hc1; clear hgot hb1 hc1)
  have hs1 : SlAt w1 (some ⟨g, 0, none⟩) 256 cap B := ⟨HLN.out, hcap, fun _ => ⟨g, 0, rfl, HC1.out⟩⟩
  have HS1 : Hid (∀ wx, Below w1.heap.size w1 wx → SlAt wx (some ⟨g, 0, none⟩) 256 cap B) := fun wx hb => hs1.below hb
  obtain ⟨r4, s4⟩ := sl_toZ hs1 4 4 rfl (by decide)
  obtain ⟨r22, s22⟩ := sl_toZ hs1 22 22 rfl (by decide)
  obtain ⟨A22, f22, t22⟩ := sl_fromZ hs1 22 22 rfl (by decide)
  have v4 := conv_sl (s4.below ((Below.refl _ w1).drew_))
  have v4n := conv_sl (s4.below ((Below.refl _ w1).drewN_ 1))
  obtain ⟨z4, hz4⟩ : ∃ z4 : ByteArray, z4 = ⟨(B.take 4).toArray⟩ := ⟨_, rfl⟩
  rw [← hz4] at v4 v4n
  have HZ4 := Lib.hid hz4
  have S22 := Lib.hid s22
  have T22 := Lib.hid t22
  clear hs1 s4 s22 t22 hz4
  have hzl : z4.toList = B.take 4 := by
    rw [HZ4.out, Lib.toList_data]
  by_cases hm : B.take 4 = [65, 82, 67, 86]
  · have tm : (z4.toList == [65, 82, 67, 86]) = true := by rw [hzl, hm]; rfl
    have HM := Lib.hid hm
    clear hm hzl
    obtain ⟨x22, hx22⟩ : ∃ x, x = numAt B 22 4 := ⟨_, rfl⟩
    obtain ⟨c22, hc22⟩ : ∃ c, c = crc (B.take 22) := ⟨_, rfl⟩
    have hb22 : (x22 : Int) ≤ 4294967295 := by have : numAt B 22 4 < 4294967296 := numAt_lt B 22 4; omega
    have hw22 : IntKind.u32.wrap (x22 : Int) = (x22 : Int) := by show (x22 : Int) % 4294967296 = x22; omega
    have HX22 := Lib.hid hx22
    have HC22 := Lib.hid hc22
    by_cases hc : (x22 : Int) = c22
    · have tc : ((x22 : Int) != c22) = false := by simpa using hc
      have HC := Lib.hid hc
      clear hx22 hc22 hc
      go_region_law
        ((first
          | ((try go_simp); go_at_call 112; refine ((S22.out.below HB2.out).crc (by decide)).mono ?_; rw [← HC22.out]; rintro e w3 ⟨rfl, hb3⟩; have HB3 := Lib.hid (HB2.out.trans (hb3.mono HB2.out.size)); clear hb3)
          | ((try go_simp); go_at_call 124; refine (get_sl (T22.out.below ((Below.refl _ w1).drew_)) 4 (by decide) (by decide) (by decide)).mono ?_; rw [numAt_drop, ← HX22.out]; rintro e w2 ⟨rfl, rfl⟩; have HB2 : Hid (Below w1.heap.size w1 w1.drew) := (Below.refl _ w1).drew_)))
      obtain ⟨x14, hx14⟩ : ∃ x, x = numAt B 14 4 := ⟨_, rfl⟩
      obtain ⟨x4, hx4⟩ : ∃ x, x = numAt B 4 8 := ⟨_, rfl⟩
      obtain ⟨x12, hx12⟩ : ∃ x, x = numAt B 12 2 := ⟨_, rfl⟩
      obtain ⟨x18, hx18⟩ : ∃ x, x = numAt B 18 4 := ⟨_, rfl⟩
      have hb14 : x14 < 4294967296 := by rw [hx14]; exact numAt_lt B 14 4
      have hb4 : x4 < 18446744073709551616 := by rw [hx4]; exact numAt_lt B 4 8
      have hb12 : x12 < 65536 := by rw [hx12]; exact numAt_lt B 12 2
      have hb18 : x18 < 4294967296 := by rw [hx18]; exact numAt_lt B 18 4
      have hw14 : IntKind.i64.wrap (x14 : Int) = (x14 : Int) := IntWalk.i64_in _ (by omega)
      have hw12 : IntKind.i64.wrap (x12 : Int) = (x12 : Int) := IntWalk.i64_in _ (by omega)
      have hw18 : IntKind.u32.wrap (x18 : Int) = (x18 : Int) := by show (x18 : Int) % 4294967296 = x18; omega
      obtain ⟨zg, hzg⟩ : ∃ zg, IntKind.i64.wrap (x4 : Int) = zg := ⟨_, rfl⟩
      have HX14 := Lib.hid hx14
      have HX4 := Lib.hid hx4
      have HX12 := Lib.hid hx12
      have HX18 := Lib.hid hx18
      have HCD : Hid (∀ (a : Nat) (wx : World), Below w1.heap.size w1 wx → Cells wx g a ((B.drop a).map bv)) := fun a wx hb => by
        have h := (HS1.out wx hb).cells (by decide)
        obtain ⟨g', o', hg', hc'⟩ := h
        simp only [Option.some.injEq, Addr.mk.injEq] at hg'
        obtain ⟨rfl, rfl, _⟩ := hg'
        have := cells_sub hc' a (B.drop a).length
        rwa [List.take_length, Nat.zero_add] at this
      have hl14 : 4 ≤ (B.drop 14).length := by rw [List.length_drop, HLN.out]; decide
      have hl4 : 8 ≤ (B.drop 4).length := by rw [List.length_drop, HLN.out]; decide
      have hl12 : 2 ≤ (B.drop 12).length := by rw [List.length_drop, HLN.out]; decide
      have hl18 : 4 ≤ (B.drop 18).length := by rw [List.length_drop, HLN.out]; decide
      clear hx14 hx4 hx12 hx18
      by_cases hsz : 245760 < x14
      · have t5 : decide ((245760 : Int) < (x14 : Int)) = true := by simp; omega
        go_wp2_with (go_at_call 124; refine (get_num g 14 242 (cap - 14) (B.drop 14) 4 _ (by decide) (by decide) (by omega) hl14 (HCD.out 14 _ HB3.out)).mono ?_; rw [show unbe ((B.drop 14).take 4) = x14 from HX14.out.symm]; rintro e w' ⟨rfl, rfl⟩)
        go_ret
        refine ⟨HB1.out.trans (HB3.out.mono HB1.out.size), .inl ⟨?_, rfl⟩⟩
        rw [HR.out, if_neg fun h => ?_]
        have := h.2.2
        rw [← HX14.out] at this
        omega
      · have t5 : decide ((245760 : Int) < (x14 : Int)) = false := by simp; omega
        go_wp2_with (first
          | (have _h := G4; go_at_call 124; refine (get_num g 12 244 (cap - 12) (B.drop 12) 2 _ (by decide) (by decide) (by omega) hl12 (HCD.out 12 _ ((HB3.out.alloc HB3.out.size _).alloc (by have := HB3.out.size; simp; omega) _))).mono ?_; rw [show unbe ((B.drop 12).take 2) = x12 from HX12.out.symm]; rintro e w' ⟨rfl, rfl⟩)
          | (have _h := G14; go_at_call 124; refine (get_num g 4 252 (cap - 4) (B.drop 4) 8 _ (by decide) (by decide) (by omega) hl4 (HCD.out 4 _ HB3.out)).mono ?_; rw [show unbe ((B.drop 4).take 8) = x4 from HX4.out.symm]; rintro e w' ⟨rfl, rfl⟩; have G4 : Hid True := trivial)
          | (go_at_call 124; refine (get_num g 14 242 (cap - 14) (B.drop 14) 4 _ (by decide) (by decide) (by omega) hl14 (HCD.out 14 _ HB3.out)).mono ?_; rw [show unbe ((B.drop 14).take 4) = x14 from HX14.out.symm]; rintro e w' ⟨rfl, rfl⟩; have G14 : Hid True := trivial))
        go_wp2_with fail
        obtain ⟨W, hW⟩ : ∃ W : World, W = (w3.alloc (.map #[] 0)).alloc (.cells #[.int .i64 zg, .map (some w3.heap.size), .slice none 0 0] 133) := ⟨_, rfl⟩
        rw [← hW]
        have hszW : W.heap.size = w3.heap.size + 2 := by rw [hW]; simp
        have hBW : Below w3.heap.size w3 W := by rw [hW]; exact ((Below.refl _ w3).alloc (Nat.le_refl _) _).alloc (by simp) _
        have hMW : MapAt W w3.heap.size [] := by rw [hW]; exact (MapAt.made w3).below ((Below.refl _ _).alloc (Nat.le_refl _) _)
        have hSW : Blk W (w3.heap.size + 1) 133 #[.int .i64 zg, .map (some w3.heap.size), .slice none 0 0] := by
          have := Blk.new (w3.alloc (.map #[] 0)) 133 #[.int .i64 zg, .map (some w3.heap.size), .slice none 0 0]
          rw [← hW] at this
          simpa using this
        have HB3w : Hid (Below w.heap.size w w3) := HB1.out.trans (HB3.out.mono HB1.out.size)
        have HBW : Hid (Below w3.heap.size w3 W) := hBW
        have HBWw : Hid (Below w.heap.size w W) := HB3w.out.trans (hBW.mono HB3w.out.size)
        have HMW := Lib.hid hMW
        have HSW := Lib.hid hSW
        have HSZ := Lib.hid hszW
        have HB1W : Hid (Below w1.heap.size w1 W) := HB3.out.trans (hBW.mono HB3.out.size)
        clear hW hBW hMW hSW hszW
        refine (chained_calls W (HD.out.below HBWw.out) HDN.out hpen h5 x12 x14 (by omega) (by omega)).mono ?_
        rintro e w5 ⟨hb5, hch⟩
        have HB5 := Lib.hid hb5
        clear hb5
        rcases hch with ⟨hnone, rfl⟩ | ⟨bs, gi, ci, vb, hsome, hblk, hbl, rfl, hci, hcell, hnums⟩
        · have HN := Lib.hid hnone
          clear hnone
          go_wp2
          go_region
          go_wp2
          go_ret
          refine ⟨HBWw.out.trans ((HB5.out.drew_).mono HBWw.out.size), .inl ⟨?_, rfl⟩⟩
          rw [HR.out]
          split
          · rw [← HX14.out, ← HX12.out, HN.out]
            rfl
          · rfl
        · obtain ⟨ix, hix⟩ : ∃ ix, ix = (readAll D bs).take x14 := ⟨_, rfl⟩
          rw [← hix] at hcell
          have hrl : (readAll D bs).length = 240 * bs.length := readAll_length HD.out.1 hblk
          have hixl : ix.length = x14 := by
            rw [hix, List.length_take, hrl, hbl]
            unfold need
            omega
          have hsl : SlAt w5 (some ⟨gi, 0, none⟩) x14 ci ix := ⟨hixl, hci, fun _ => ⟨gi, 0, rfl, hcell⟩⟩
          obtain ⟨cx, hcx⟩ : ∃ cx, cx = crc ix := ⟨_, rfl⟩
          have HIX := Lib.hid hix
          have HSL := Lib.hid hsl
          have HCX := Lib.hid hcx
          have HSOME := Lib.hid hsome
          have HNU := Lib.hid hnums
          have HBLK := Lib.hid hblk
          obtain ⟨sa, hsa⟩ : ∃ sa, sa = w3.heap.size + 1 := ⟨_, rfl⟩
          obtain ⟨sm, hsm⟩ : ∃ sm, sm = w3.heap.size := ⟨_, rfl⟩
          rw [← hsm] at HMW
          have hS5 := HSW.out.below HB5.out HSW.out.lt
          rw [← hsa, ← hsm] at hS5
          rw [← hsa, ← hsm]
          have HS5 := Lib.hid hS5
          have HM5 : Hid (MapAt w5 sm []) := HMW.out.below HB5.out
          have HBw5 : Hid (Below w.heap.size w w5) := HBWw.out.trans (HB5.out.mono HBWw.out.size)
          have HB15 : Hid (Below w1.heap.size w1 w5) := HB1W.out.trans (HB5.out.mono HB1W.out.size)
          have HNEW : Hid (w.heap.size ≤ sa ∧ w.heap.size ≤ sm ∧ sa ≠ sm) := by
            have := HB3w.out.size
            exact ⟨by omega, by omega, by omega⟩
          have z0 : w5.drew.cell? ⟨sa, 0, none⟩ = some (.int .i64 zg) := (Blk.drew hS5).cell 0
          obtain ⟨Ab, cb, rfl, _⟩ := id hnums
          clear hix hixl hsl hcx hsome hnums hblk hbl hcell hci hrl hsa hsm hS5
          have hn18 : ¬ cap = 18 := by omega
          by_cases hcc : cx = (x18 : Int)
          · have tcc : (cx != (x18 : Int)) = false := by simpa using hcc
            have HCC := Lib.hid hcc
            clear hcc
            have hg : x4 < 9223372036854775808 := by
              have := HG8.out
              have h4 := HX4.out
              omega
            obtain rfl : zg = (x4 : Int) := by rw [← hzg]; exact IntWalk.i64_in _ (by omega)
            have tg : decide ((x4 : Int) < 0) = false := by simp
            obtain ⟨r2, hr2⟩ : ∃ r2, r2 = x4 % 2 := ⟨_, rfl⟩
            have emod : (x4 : Int).tmod 2 = (r2 : Int) := by rw [Int.tmod_eq_emod_of_nonneg (by omega)]; omega
            have HR2 := Lib.hid hr2
            have HG := Lib.hid hg
            clear hr2 hg
            by_cases hp : r2 = i
            · have tp : ((r2 : Int) != (i : Int)) = false := by simp [hp]
              have HP := Lib.hid hp
              clear hp
              go_wp2
              go_region_held3 (fun w' => w'.cell? ⟨sa, 0, none⟩ = some (.int .i64 (x4 : Int))) (go_keep)
                ((first
                  | (go_at_call 124; refine (get_num g 18 238 (cap - 18) (B.drop 18) 4 _ (by decide) (by decide) (by omega) hl18 (HCD.out 18 _ (HB15.out.trans (HB6.out.mono HB15.out.size)))).mono ?_; rw [show unbe ((B.drop 18).take 4) = x18 from HX18.out.symm]; rintro e w7 ⟨rfl, rfl⟩)
                  | (go_at_call 112; refine ((HSL.out.below ((Below.refl _ w5).drew_)).crc (by omega)).mono ?_; rw [← HCX.out]; rintro e w6 ⟨rfl, hb6⟩; have HB6 : Hid (Below w5.heap.size w5 w6) := ((Below.refl _ w5).drew_).trans (hb6.mono (by simp)); have HS6 := Lib.hid (HS5.out.below HB6.out HS5.out.lt); have z6 : w6.cell? ⟨sa, 0, none⟩ = some (.int .i64 (x4 : Int)) := HS6.out.cell 0; clear hb6)))
              have f6 : w6.frozen? ⟨sa, 2, none⟩ = false := HS6.out.frozen 2
              have y6 : w6.cell? ⟨sa, 2, none⟩ = some (.slice none 0 0) := HS6.out.cell 2
              go_wp2
              obtain ⟨W6, hW6⟩ : ∃ W6, W6 = w6.setCell ⟨sa, 2, none⟩ (.slice Ab bs.length cb) := ⟨_, rfl⟩
              rw [← hW6]
              have hK6 : Keeps (· = sa) w5 W6 := by rw [hW6]; exact Keeps.setCell (F := (· = sa)) (Keeps.of_below HB6.out) (p := ⟨sa, 2, none⟩) (fun _ => rfl) _
              have hS6b : Blk W6 sa 133 #[.int .i64 (x4 : Int), .map (some sm), .slice Ab bs.length cb] := by rw [hW6]; exact HS6.out.set_ 2 _
              have hM6 : MapAt W6 sm [] := HM5.out.keeps hK6 (fun e => HNEW.out.2.2 e.symm)
              have hN6 : NumsAt W6 (.slice Ab bs.length cb) bs := HNU.out.keeps hK6 (fun g cs hg hb => by
                subst hg
                exact absurd (hb.det HS5.out).2 (by decide))
              have hL6 : SlAt W6 (some ⟨gi, 0, none⟩) x14 ci ix := HSL.out.keepsU hK6 (HS5.out.noU8 (fun j x e => by
                rcases j with _ | _ | _ | j
                all_goals simp at e))
              have HB6w : Hid (Below w.heap.size w W6) := by
                show Below _ _ _
                rw [hW6]
                exact (HBw5.out.trans (HB6.out.mono HBw5.out.size)).setCell HNEW.out.1 _
              have HRR : Hid (R = (parseAll D.blocks.length x14 ix []).map fun ps => (⟨x4, ps, bs⟩ : St)) := by
                show R = _
                rw [HR.out, if_pos ⟨HM.out, by rw [← HX22.out, ← HC22.out]; exact HC.out, by rw [← HX14.out]; omega⟩, ← HX14.out, ← HX12.out, HSOME.out, Option.bind_some, ← HIX.out, ← HCX.out, ← HX18.out, ← HX4.out, if_pos ⟨HCC.out, HG.out, by rw [← HR2.out]; exact HP.out⟩]
              have HS6b := Lib.hid hS6b
              have HN6 := Lib.hid hN6
              have HL6 := Lib.hid hL6
              have HM6 := Lib.hid hM6
              obtain ⟨n, hn⟩ : ∃ n, n = D.blocks.length := ⟨_, rfl⟩
              rw [← hn] at HRR
              have HNB := Lib.hid hn
              obtain ⟨RR, hRR⟩ : ∃ RR, RR = parseAll n x14 ix [] := ⟨_, rfl⟩
              rw [← hRR] at HRR
              have HRE := Lib.hid hRR
              have hn5 : n ≤ 1024 := by omega
              clear hW6 hK6 hS6b hM6 hN6 hL6 hn hRR
              go_loopw [9] (fun v wr => Loading W6 sm n RR v wr) (fun v _ => sliceLen v)
              case atStart => exact ⟨ix, _, x14, ci, [], x14, rfl, HL6.out, Nat.le_refl _, HRE.out.symm, Nat.zero_le _, PlacesAt.nil_ HM6.out, Keeps.refl _ _⟩
              case round =>
                obtain ⟨wo, rfl⟩ : ∃ wo, wo = wr := ⟨_, rfl⟩
                obtain ⟨l, A, m, c, ps, f, rfl, hsl, hlf, hR, hpl, hpa, hK⟩ := hrel
                have HL := Lib.hid hsl
                have HRP := Lib.hid hR
                have HPA := Lib.hid hpa
                have HK := Lib.hid hK
                have hsS := HS6b.out.keeps hK HNEW.out.2.2
                have HSr := Lib.hid hsS
                have HBr : Hid (Below w.heap.size w wo) := below_keeps HB6w.out hK HB6w.out.size fun q e => by
                  have e : q = sm := e
                  rw [e]
                  exact HNEW.out.2.1
                have hnone : ∀ wx, Below wo.heap.size wo wx → RR = none → LoadPost w R (.returned (.pointer none)) wx := fun wx hb e => ⟨HBr.out.trans (hb.mono HBr.out.size), .inl ⟨by rw [HRR.out, e]; rfl, rfl⟩⟩
                have HNO := Lib.hid hnone
                clear hsl hR hpa hK hsS hnone
                by_cases h0 : 0 < m
                · have tk : decide ((0 : Int) < (m : Int)) = true := by simpa using h0
                  obtain ⟨gl, ol, rfl, hcl⟩ := HL.out.cells h0
                  have hll := HL.out.len
                  obtain ⟨x, hx⟩ : ∃ x, x = (l[0]?.getD 0).toNat := ⟨_, rfl⟩
                  have q0 : wo.cell? ⟨gl, ol, none⟩ = some (.int .u8 (x : Int)) := by
                    have h1 := hcl 0 (bv (l[0]'(by omega))) (by rw [List.getElem?_map, List.getElem?_eq_getElem (by omega)]; rfl)
                    rw [hx, List.getElem?_eq_getElem (by omega)]
                    exact h1
                  have hx256 : x < 256 := by rw [hx]; exact UInt8.toNat_lt _
                  have HX := Lib.hid hx
                  clear hcl hx hll
                  by_cases h8 : m < x + 8
                  · have t8 : decide ((m : Int) < (x : Int) + 8) = true := by simp; omega
                    go_wp2
                    go_ret
                    exact HNO.out _ (Below.refl _ _) (parse_fails (by rw [HL.out.len]; exact h0) (by rw [HL.out.len]; exact hlf) HRP.out (by unfold parseStep; rw [if_neg fun h => ?_]; have := h.1; rw [← HX.out, HL.out.len] at this; omega))
                  · have t8 : decide ((m : Int) < (x : Int) + 8) = false := by simp; omega
                    have hx8 : x + 8 ≤ m := by omega
                    have ew : IntKind.i64.wrap ((x : Int) + 1) = (x : Int) + 1 := IntWalk.i64_in _ (by omega)
                    obtain ⟨A1, u1, s1⟩ := sl_midZ HL.out 1 (x + 1) 1 ((x : Int) + 1) rfl (by omega) (by omega) (by omega)
                    obtain ⟨A2, u2, s2⟩ := sl_fromZ HL.out (x + 1) ((x : Int) + 1) (by omega) (by omega)
                    rw [Nat.add_sub_cancel] at u1 s1
                    obtain ⟨key, hkey⟩ : ∃ key : ByteArray, key = ⟨((l.drop 1).take x).toArray⟩ := ⟨_, rfl⟩
                    have k1 := conv_sl (s1.below ((Below.refl _ wo).drew_))
                    have k1n := conv_sl (s1.below ((Below.refl _ wo).drewN_ 1))
                    rw [← hkey] at k1 k1n
                    have HKEY := Lib.hid hkey
                    obtain ⟨m1, hm1⟩ : ∃ m1, m1 = m - (x + 1) := ⟨_, rfl⟩
                    obtain ⟨c1, hc1⟩ : ∃ c1, c1 = c - (x + 1) := ⟨_, rfl⟩
                    obtain ⟨l1, hl1⟩ : ∃ l1, l1 = l.drop (x + 1) := ⟨_, rfl⟩
                    rw [← hm1, ← hc1] at u2 s2
                    rw [← hl1] at s2
                    have hm7 : 7 ≤ m1 := by omega
                    have hm1lt : m1 < m := by omega
                    have HM1 := Lib.hid hm1
                    have HL1 := Lib.hid hl1
                    clear hm1 hc1 hl1
                    obtain ⟨A3, u3, s3⟩ := sl_fromZ s2 3 3 rfl (by omega)
                    obtain ⟨m3, hm3⟩ : ∃ m3, m3 = m1 - 3 := ⟨_, rfl⟩
                    obtain ⟨c3, hc3⟩ : ∃ c3, c3 = c1 - 3 := ⟨_, rfl⟩
                    rw [← hm3, ← hc3] at u3 s3
                    have hm34 : 4 ≤ m3 := by omega
                    have HS2 : Hid (∀ wx, Below wo.heap.size wo wx → SlAt wx A2 m1 c1 l1) := fun wx hb => s2.below hb
                    have HS3 : Hid (∀ wx, Below wo.heap.size wo wx → SlAt wx A3 m3 c3 (l1.drop 3)) := fun wx hb => s3.below hb
                    clear hm3 hc3
                    obtain ⟨size, hsize⟩ : ∃ size, size = numAt l1 0 3 := ⟨_, rfl⟩
                    obtain ⟨sum, hsum⟩ : ∃ sum, sum = numAt l1 3 4 := ⟨_, rfl⟩
                    have hsz24 : size < 16777216 := by rw [hsize]; exact numAt_lt _ 0 3
                    have hsm32 : sum < 4294967296 := by rw [hsum]; exact numAt_lt _ 3 4
                    have wsz : IntKind.i64.wrap (size : Int) = (size : Int) := IntWalk.i64_in _ (by omega)
                    have wsm : IntKind.u32.wrap (sum : Int) = (sum : Int) := by rw [IntKind.wrap_u32]; omega
                    have HSI := Lib.hid hsize
                    have HSU := Lib.hid hsum
                    clear s1 s2 s3 hkey hsize hsum
                    go_wp2
                    go_region
                    go_wp2
                    go_cut [15] from 98 to 192 (fun s15 wx => ∃ pb, s15 = .pointer (some ⟨pb, 0, none⟩) ∧ wo.heap.size ≤ pb ∧ Below wo.heap.size wo wx ∧ Blk wx pb 130 #[.int .i64 (size : Int), .int .u32 (sum : Int), .slice none 0 0])
                    case first =>
                      have y0 : wo.drew.cell? ⟨sa, 0, none⟩ = some (.int .i64 (x4 : Int)) := (Blk.drew HSr.out).cell 0
                      have HYA : Hid (∀ o, (wo.alloc o).drew.drew.cell? ⟨sa, 0, none⟩ = some (.int .i64 (x4 : Int))) := fun o => (HSr.out.alloc o).cell 0
                      go_region_held3 (fun w' => w'.cell? ⟨sa, 0, none⟩ = some (.int .i64 (x4 : Int))) ((first | exact HYA.out _ | go_keep))
                        ((first
                          | (go_at_call_of 124 (Value.slice A2 m1 c1); refine (get_sl (HS2.out _ (by first | exact ((Below.refl _ wo).drew_).drew_ | exact (((Below.refl _ wo).drew_).drew_).alloc (by simp) _)) 3 (by decide) (by decide) (by omega)).mono ?_; rw [← HSI.out]; rintro e w2 ⟨rfl, rfl⟩)
                          | (go_at_call_of 124 (Value.slice A3 m3 c3); refine (get_sl (HS3.out _ (by first | exact ((Below.refl _ wo).drew_).drew_ | exact (((Below.refl _ wo).drew_).drew_).alloc (by simp) _)) 4 (by decide) (by decide) (by omega)).mono ?_; rw [numAt_drop, ← HSU.out]; rintro e w2 ⟨rfl, rfl⟩)))
                      all_goals
                        go_wp2_with fail
                        go_meet
                        exact ⟨wo.heap.size, rfl, Nat.le_refl _, (((Below.refl _ wo).alloc (Nat.le_refl _) _).drew_).drew_, ((Blk.new wo _ _).drew).drew⟩
                    case rest =>
                      obtain ⟨pb, rfl, hpb, hbp, hbk⟩ := hcut
                      have HBP := Lib.hid hbp
                      have HBK := Lib.hid hbk
                      have hfail : ∀ wx, Below wo.heap.size wo wx → parseStep n l ps = none → LoadPost w R (.returned (.pointer none)) wx := fun wx hb e => HNO.out _ hb (parse_fails (by rw [HL.out.len]; exact h0) (by rw [HL.out.len]; exact hlf) HRP.out e)
                      have HFAIL := Lib.hid hfail
                      obtain ⟨A7, u7, s7⟩ := sl_fromZ (HS2.out wo (Below.refl _ wo)) 7 7 rfl hm7
                      obtain ⟨m7, hm7e⟩ : ∃ m7, m7 = m1 - 7 := ⟨_, rfl⟩
                      obtain ⟨c7, hc7e⟩ : ∃ c7, c7 = c1 - 7 := ⟨_, rfl⟩
                      rw [← hm7e, ← hc7e] at u7 s7
                      have HS7 : Hid (∀ wx, Below wo.heap.size wo wx → SlAt wx A7 m7 c7 (l1.drop 7)) := fun wx hb => s7.below hb
                      have HM7 := Lib.hid hm7e
                      obtain ⟨cnt, hcnt⟩ : ∃ cnt, cnt = (size + 239) / 240 := ⟨_, rfl⟩
                      have hcnt2 : cnt ≤ 70000 := by omega
                      have HCNT := Lib.hid hcnt
                      have hl7 : (l1.drop 7).length = m7 := s7.len
                      have p0 : wc.cell? ⟨pb, 0, none⟩ = some (.int .i64 (size : Int)) := hbk.cell 0
                      clear hbp hbk s7 hc7e hfail hm7e hcnt u3
                      by_cases hc2 : m7 < 2 * cnt
                      · have tc2 : decide ((m7 : Int) < 2 * (cnt : Int)) = true := by simp; omega
                        have HL7 := Lib.hid hl7
                        clear hl7
                        go_wp2_with (go_at_call 111; refine (needed_calls size _ (by omega)).mono ?_; rw [← HCNT.out]; rintro e w' ⟨rfl, rfl⟩)
                        go_ret
                        exact HFAIL.out _ HBP.out (parse_short HX.out (by rw [← HL1.out, HL7.out, ← HSI.out]; unfold need; rw [← HCNT.out]; exact hc2))
                      · have tc2 : decide ((m7 : Int) < 2 * (cnt : Int)) = false := by simp; omega
                        have HL7 := Lib.hid hl7
                        clear hl7
                        obtain ⟨l7, hl7e⟩ : ∃ l7, l7 = l1.drop 7 := ⟨_, rfl⟩
                        rw [← hl7e] at HS7 HL7
                        have HL7E := Lib.hid hl7e
                        clear hl7e
                        go_wp2_with (go_at_call 111; refine (needed_calls size _ (by omega)).mono ?_; rw [← HCNT.out]; rintro e w' ⟨rfl, rfl⟩)
                        go_loopw [138] (fun y wr => ∃ j : Nat, j ≤ cnt ∧ y = .int .i64 j ∧ Placing wo.heap.size wo pb size sum l7 n j wr) (fun y _ => cnt - (intOf y).toNat)
                        case atStart => exact ⟨0, Nat.zero_le _, rfl, placing_start HBP.out HBK.out⟩
                        case round =>
                          obtain ⟨j, hj, rfl, hP⟩ := hrel
                          have HP := Lib.hid hP
                          obtain ⟨hbi, sv, hbki, hown, hbl⟩ := hP
                          obtain ⟨Asv, csv, rfl, hsc, hsm2⟩ := own_slice3 hown
                          have HBI := Lib.hid hbi
                          have HBKI := Lib.hid hbki
                          have HOWN := Lib.hid hown
                          have HBL := Lib.hid hbl
                          clear hbi hown hbl p0
                          by_cases hlt : j < cnt
                          · have tj : decide ((j : Int) < (cnt : Int)) = true := by simp; omega
                            obtain ⟨A8, u8, s8⟩ := sl_fromZ (HS7.out wr HBI.out) (2 * j) (2 * (j : Int)) (by omega) (by omega)
                            obtain ⟨m8, hm8⟩ : ∃ m8, m8 = m7 - 2 * j := ⟨_, rfl⟩
                            obtain ⟨c8, hc8⟩ : ∃ c8, c8 = c7 - 2 * j := ⟨_, rfl⟩
                            rw [← hm8, ← hc8] at u8 s8
                            have hm82 : 2 ≤ m8 := by omega
                            obtain ⟨at_, hat⟩ : ∃ at_, at_ = numAt l7 (2 * j) 2 := ⟨_, rfl⟩
                            have hat64 : at_ < 65536 := by rw [hat]; exact numAt_lt _ (2 * j) 2
                            have wat : IntKind.i64.wrap (at_ : Int) = (at_ : Int) := IntWalk.i64_in _ (by omega)
                            have HS8 := Lib.hid s8
                            have HAT := Lib.hid hat
                            have hbad : ¬ (2 ≤ at_ ∧ at_ < n) → parseStep n l ps = none := fun h => parse_block HX.out (j := j) (by rw [← HL1.out, ← HSI.out]; unfold need; rw [← HCNT.out]; exact hlt) (by rw [← HL1.out, ← HL7E.out, ← HAT.out]; exact h)
                            have HBAD := Lib.hid hbad
                            clear s8 hm8 hc8 hat hbki hbad
                            by_cases ha2 : at_ < 2
                            · have ta : decide ((at_ : Int) < 2) = true := by simp; omega
                              go_wp2_with (go_at_call 124; refine (get_sl HS8.out 2 (by decide) (by decide) hm82).mono ?_; rw [numAt_drop, ← HAT.out]; rintro e w2 ⟨rfl, rfl⟩)
                              go_ret
                              exact HFAIL.out _ HBI.out (HBAD.out (by omega))
                            · have ta : decide ((at_ : Int) < 2) = false := by simp; omega
                              by_cases han : at_ < n
                              · have tb : decide ((n : Int) ≤ (at_ : Int)) = false := by simp; omega
                                have p2 : wr.cell? ⟨pb, 2, none⟩ = some (.slice Asv j csv) := HBKI.out.cell 2
                                go_wp2_with (first
                                  | (go_at_call 124; refine (get_sl HS8.out 2 (by decide) (by decide) hm82).mono ?_; rw [numAt_drop, ← HAT.out]; rintro e w2 ⟨rfl, rfl⟩)
                                  | (go_at_call 98; refine (blocks_at (HD.out.below (HBr.out.trans (HBI.out.mono HBr.out.size)))).mono ?_; rw [← HNB.out]; rintro e w2 ⟨rfl, rfl⟩)
                                  | (at_builtin; refine wpList_append_own _ rfl _ _ 117 rfl wo.heap.size 3 ii (.int .i64 0) 1 8 Tryz.underlying117 hii hiz0 hiz1 hiz2 rfl (by decide) _ _ _ rfl (HOWN.out.alloc _) ⟨wr.heap.size, 0, none⟩ 1 1 [.int .i64 (at_ : Int)] rfl rfl ?b1 ?b2 ?b3 ?b4 ?b5 ?b6))
                                case b1 => exact cell_one_new _ _ _
                                case b2 => simp [Value.oneCell']
                                case b3 => unfold maxLen; omega
                                case b4 => omega
                                case b5 =>
                                  have := HBI.out.size
                                  simp
                                  omega
                                intro v9 w9 hown9 hg9 _
                                have HB9 := placing_blk HBKI.out HOWN.out hg9
                                obtain ⟨A9, c9, rfl, _⟩ := own_slice3 hown9
                                have y2 : w9.cell? ⟨pb, 2, none⟩ = some (.slice Asv j csv) := HB9.cell 2
                                have g2 : w9.frozen? ⟨pb, 2, none⟩ = false := HB9.frozen 2
                                have HST : Hid (Placing wo.heap.size wo pb size sum l7 n (j + 1) (w9.setCell ⟨pb, 2, none⟩ (.slice A9 (j + 1) c9))) := placing_step (Nat.le_refl _) hpb HBI.out HBKI.out HOWN.out HBL.out hg9 (by rw [← HAT.out]; exact hown9) (by rw [← HAT.out]; omega)
                                clear hown9 hg9 HB9
                                go_wp2
                                exact ⟨⟨j + 1, by omega, by go_num, HST.out⟩, by simp [intOf]; omega⟩
                              · have tb : decide ((n : Int) ≤ (at_ : Int)) = true := by simp; omega
                                go_wp2_with (first
                                  | (go_at_call 124; refine (get_sl HS8.out 2 (by decide) (by decide) hm82).mono ?_; rw [numAt_drop, ← HAT.out]; rintro e w2 ⟨rfl, rfl⟩)
                                  | (go_at_call 98; refine (blocks_at (HD.out.below (HBr.out.trans (HBI.out.mono HBr.out.size)))).mono ?_; rw [← HNB.out]; rintro e w2 ⟨rfl, rfl⟩))
                                go_ret
                                exact HFAIL.out _ HBI.out (HBAD.out (by omega))
                          · obtain rfl : j = cnt := by omega
                            have tj : decide ((j : Int) < (j : Int)) = false := by simp
                            have hcell := HBKI.out
                            have p0 : wr.cell? ⟨pb, 0, none⟩ = some (.int .i64 (size : Int)) := hcell.cell 0
                            have z1 : wr.cell? ⟨sa, 1, none⟩ = some (.map (some sm)) := (HSr.out.below HBI.out HSr.out.lt).cell 1
                            obtain ⟨lp, hMp, hps, hpp⟩ := id HPA.out
                            obtain ⟨np, hnp⟩ : ∃ np, np = ps.length := ⟨_, rfl⟩
                            have hML : (mmap (fun x : Value × Place => x.1) lp).length = np := by rw [hnp, hps, mmap_length, mmap_length]
                            have hMr : MapAt wr sm (mmap (fun x : Value × Place => x.1) lp) := hMp.below HBI.out
                            have hlen : (Builtin.len_ #[131] 3 #[.map (some sm)]).run Tryz.prog wr = .ok (.int .i64 (np : Int)) wr := by
                              have h1 : wr.ownsMap Tryz.prog 9 rv sm _ (mapD (mmap (fun x : Value × Place => x.1) lp)) := hMr
                              have := World.ownsMap.len (H := Value) h1 Tryz.underlying131 3
                              rw [mapD_size, hML] at this
                              exact this
                            have HMr := Lib.hid hMr
                            have HNP := Lib.hid hnp
                            have HPS := Lib.hid hps
                            have HPP := Lib.hid hpp
                            have HML := Lib.hid hML
                            clear hMp hMr hps hpp hnp hML hcell hbki
                            by_cases hx0 : x = 0
                            · have tx : ((x : Int) == 0) = true := by simpa using hx0
                              go_wp2
                              go_ret
                              exact HFAIL.out _ HBI.out (parse_bad HX.out (.inl hx0))
                            · have tx : ((x : Int) == 0) = false := by rw [beq_eq_false_iff_ne]; omega
                              by_cases hx64 : 64 < x
                              · have tx2 : decide ((64 : Int) < (x : Int)) = true := by simp; omega
                                go_wp2
                                go_ret
                                exact HFAIL.out _ HBI.out (parse_bad HX.out (.inr (.inl hx64)))
                              · have tx2 : decide ((64 : Int) < (x : Int)) = false := by simp; omega
                                by_cases hs6 : 65536 < size
                                · have ts : decide ((65536 : Int) < (size : Int)) = true := by simp; omega
                                  go_wp2
                                  go_ret
                                  exact HFAIL.out _ HBI.out (parse_bad HX.out (.inr (.inr (.inl (by rw [← HL1.out, ← HSI.out]; exact hs6)))))
                                · have ts : decide ((65536 : Int) < (size : Int)) = false := by simp; omega
                                  by_cases hnp : np = 512
                                  · have tn : ((np : Int) == 512) = true := by rw [beq_iff_eq]; omega
                                    go_wp2
                                    go_ret
                                    exact HFAIL.out _ HBI.out (parse_bad HX.out (.inr (.inr (.inr (by rw [← HNP.out]; exact hnp)))))
                                  · have tn : ((np : Int) == 512) = false := by rw [beq_eq_false_iff_ne]; omega
                                    obtain ⟨A9, u9, s9⟩ := sl_fromZ (HS7.out wo (Below.refl _ _)) (2 * j) (2 * (j : Int)) (by omega) (by omega)
                                    obtain ⟨m9, hm9⟩ : ∃ m9, m9 = m7 - 2 * j := ⟨_, rfl⟩
                                    obtain ⟨c9, hc9⟩ : ∃ c9, c9 = c7 - 2 * j := ⟨_, rfl⟩
                                    rw [← hm9, ← hc9] at u9 s9
                                    have hks : key.size ≤ maxLen := by
                                      rw [HKEY.out]
                                      show ((l.drop 1).take x).toArray.size ≤ maxLen
                                      rw [List.size_toArray, List.length_take]
                                      unfold maxLen
                                      omega
                                    obtain ⟨ve, ze, wE, hE, hg1, _, hS⟩ := entryP_run (w := wr.drew) (HMr.out.keeps (F := fun _ => False) ((Keeps.refl _ wr).drew) id) (by rw [HML.out]; have := HNP.out; omega) key hks
                                    obtain ⟨wS, hSr, hMS, hg2⟩ := hS wE (.agg #[.int .i64 (size : Int), .int .u32 (sum : Int), .slice Asv j csv]) rfl
                                    have hpbs : pb ≠ sm := fun e => by
                                      have := HMr.out
                                      rw [← e] at this
                                      exact this.not_blk HBKI.out
                                    have hbE : Blk wE pb 130 #[.int .i64 (size : Int), .int .u32 (sum : Int), .slice Asv j csv] := (HBKI.out.drew).grown hg1 (fun e => hpbs (by cases e; rfl))
                                    have d0 : wr.drew.cell? ⟨pb, 0, none⟩ = some (.int .i64 (size : Int)) := (Blk.drew HBKI.out).cell 0
                                    have d1 : wr.drew.cell? ⟨pb, 1, none⟩ = some (.int .u32 (sum : Int)) := (Blk.drew HBKI.out).cell 1
                                    have d2 : wr.drew.cell? ⟨pb, 2, none⟩ = some (.slice Asv j csv) := (Blk.drew HBKI.out).cell 2
                                    have e0 : wE.cell? ⟨pb, 0, none⟩ = some (.int .i64 (size : Int)) := hbE.cell 0
                                    have e1 : wE.cell? ⟨pb, 1, none⟩ = some (.int .u32 (sum : Int)) := hbE.cell 1
                                    have e2 : wE.cell? ⟨pb, 2, none⟩ = some (.slice Asv j csv) := hbE.cell 2
                                    have HG1 := Lib.hid hg1
                                    have HG2 := Lib.hid hg2
                                    have HMS := Lib.hid hMS
                                    have HS9 := Lib.hid s9
                                    have HM9 := Lib.hid hm9
                                    have hm9lt : m9 < m := by
                                      have := HM7.out
                                      omega
                                    clear hS hg1 hg2 hMS s9 hm9 hc9 hbE
                                    have HFIN : Hid (Loading W6 sm n RR (.slice A9 m9 c9) wS) := by
                                      show Loading _ _ _ _ _ _
                                      have hle := HML.out
                                      have hlx : l1 = l.drop (x + 1) := HL1.out
                                      have hneed : Go.Proofs.YtbgiklkpinflaaaGreat.need size = j := HCNT.out.symm
                                      refine loading_step (sum := sum) (size := size) (pb := pb) (x := x) (sv := .slice Asv j csv) (lp := lp) (key := key) HL.out h0 hlf HRP.out hpl HK.out HX.out (by omega) (by rw [← hlx]; exact HSI.out) (by rw [← hlx]; exact HSU.out) ?_ hx0 (by omega) (by omega) (by rw [← HNP.out]; exact hnp) ?_ HBKI.out HPA.out HPS.out HPP.out HG1.out HG2.out HMS.out HKEY.out ?_ ?_
                                      · rw [hneed, ← HM1.out, ← HM7.out]
                                        exact hc2
                                      · rw [hneed, ← hlx, ← HL7E.out]
                                        exact HP.out
                                      · rw [hneed, ← HM1.out, ← HM7.out]
                                        exact HM9.out
                                      · rw [hneed, ← hlx, ← HL7E.out]
                                        exact HS9.out
                                    go_wp2
                                    go_region
                                    all_goals
                                      go_wp2
                                      go_roundw
                                      case rel => exact HFIN.out
                                      case measure =>
                                        simp [sliceLen]
                                        omega
                · obtain rfl : m = 0 := by omega
                  have tk : decide ((0 : Int) < ((0 : Nat) : Int)) = false := by simp
                  go_wp2
                  go_ret
                  refine ⟨HBr.out, .inr ⟨⟨x4, ps, bs⟩, sa, sm, ?_, rfl, ⟨_, HSr.out, HN6.out.keeps HK.out (fun g cs hg hb => by
                    subst hg
                    exact HM6.out.not_blk hb), HPA.out⟩, HNEW.out.1, HNEW.out.2.1⟩⟩
                  have hl0 : l = [] := List.eq_nil_of_length_eq_zero HL.out.len
                  rw [HRR.out, ← HRP.out, hl0, parseAll_nil]
                  rfl
            · have tp : ((r2 : Int) != (i : Int)) = true := by simp; omega
              have HP := Lib.hid hp
              clear hp
              go_wp2
              go_region_held3 (fun w' => w'.cell? ⟨sa, 0, none⟩ = some (.int .i64 (x4 : Int))) (go_keep)
                ((first
                  | (go_at_call 124; refine (get_num g 18 238 (cap - 18) (B.drop 18) 4 _ (by decide) (by decide) (by omega) hl18 (HCD.out 18 _ (HB15.out.trans (HB6.out.mono HB15.out.size)))).mono ?_; rw [show unbe ((B.drop 18).take 4) = x18 from HX18.out.symm]; rintro e w7 ⟨rfl, rfl⟩)
                  | (go_at_call 112; refine ((HSL.out.below ((Below.refl _ w5).drew_)).crc (by omega)).mono ?_; rw [← HCX.out]; rintro e w6 ⟨rfl, hb6⟩; have HB6 : Hid (Below w5.heap.size w5 w6) := ((Below.refl _ w5).drew_).trans (hb6.mono (by simp)); have HS6 := Lib.hid (HS5.out.below HB6.out HS5.out.lt); have z6 : w6.cell? ⟨sa, 0, none⟩ = some (.int .i64 (x4 : Int)) := HS6.out.cell 0; clear hb6)))
              all_goals
                go_wp2
                go_ret
                refine ⟨HBw5.out.trans (HB6.out.mono HBw5.out.size), .inl ⟨?_, rfl⟩⟩
                rw [HR.out]
                split
                · rw [← HX14.out, ← HX12.out, HSOME.out, Option.bind_some, ← HIX.out, ← HCX.out, ← HX18.out, ← HX4.out, if_neg fun h => HP.out (by rw [HR2.out]; exact h.2.2)]
                · rfl
          · have tcc : (cx != (x18 : Int)) = true := by simpa using hcc
            have HCC := Lib.hid hcc
            clear hcc
            go_wp2
            refine wp_region_held_drew (S := fun _ => True) (by kernel_rfl) trivial (fun hHeld => ?_)
            refine wpAnyH_take (i := 0) (v := ?_) rfl (by kernel_rfl) (by kernel_rfl) (by kernel_rfl) (fun _ _ _ h => h) (Or.inl ⟨by rfl, ?_⟩) trivial ?_
            rotate_left
            · intro w' _
              go_simp
              try with_reducible rfl
            try simp only [List.getElem_toArray, List.getElem_cons_zero,                         Act.put, List.setIfInBounds_toArray, List.set_cons_zero, List.set_cons_succ]
            refine wpAnyH_take (i := 1) (v := ?_) rfl (by kernel_rfl) (by kernel_rfl) (by kernel_rfl) (fun _ _ _ h => h) (Or.inl ⟨by rfl, ?_⟩) trivial ?_
            rotate_left
            · intro w' _
              go_simp
              try with_reducible rfl
            try simp only [List.getElem_toArray, List.getElem_cons_zero, List.getElem_cons_succ, Act.put, List.setIfInBounds_toArray, List.set_cons_zero, List.set_cons_succ]
            refine wpAnyH_take (i := 2) (v := ?_) rfl (by kernel_rfl) (by kernel_rfl) (by kernel_rfl) (fun _ _ _ h => h) (Or.inl ⟨by rfl, ?_⟩) trivial ?_
            rotate_left
            · intro w' _
              go_simp
              try with_reducible rfl
            try simp only [List.getElem_toArray, List.getElem_cons_zero, List.getElem_cons_succ, Act.put, List.setIfInBounds_toArray, List.set_cons_zero, List.set_cons_succ]
            refine wpAnyH_take (i := 3) (v := ?_) rfl (by kernel_rfl) (by kernel_rfl) (by kernel_rfl) (fun _ _ _ h => h) (Or.inl ⟨by rfl, ?_⟩) trivial ?_
            rotate_left
            · intro w' _
              go_simp
              try with_reducible rfl
            try simp only [List.getElem_toArray, List.getElem_cons_zero, List.getElem_cons_succ, Act.put, List.setIfInBounds_toArray, List.set_cons_zero, List.set_cons_succ]
            refine wpAnyH_take (i := 5) (v := ?_) rfl (by kernel_rfl) (by kernel_rfl) (by kernel_rfl) (fun _ _ _ h => h) (Or.inl ⟨by rfl, ?_⟩) trivial ?_
            rotate_left
            · intro w' _
              go_simp
              try with_reducible rfl
            try simp only [List.getElem_toArray, List.getElem_cons_zero, List.getElem_cons_succ, Act.put, List.setIfInBounds_toArray, List.set_cons_zero, List.set_cons_succ]
            refine wpAnyH_take (i := 6) (v := ?_) rfl (by kernel_rfl) (by kernel_rfl) (by kernel_rfl) (fun _ _ _ h => h) (Or.inl ⟨by rfl, ?_⟩) trivial ?_
            rotate_left
            · intro w' _
              go_simp
              try with_reducible rfl
            try simp only [List.getElem_toArray, List.getElem_cons_zero, List.getElem_cons_succ, Act.put, List.setIfInBounds_toArray, List.set_cons_zero, List.set_cons_succ]
            refine wpAnyH_ready (rs := [4]) (by kernel_rfl) (by simp) ?_
            refine AllReadyH.cons rfl (fun K hK => ?_) AllReadyH.nil
            go_simp
            go_at_call 112; refine ((HSL.out.below ((Below.refl _ w5).drew_)).crc (by omega)).mono ?_; rw [← HCX.out]; rintro e w6 ⟨rfl, hb6⟩; have HB6 : Hid (Below w5.heap.size w5 w6) := ((Below.refl _ w5).drew_).trans (hb6.mono (by simp)); clear hb6
            try go_wp2_with fail
            refine hK.out _ _ trivial (fun hHeld => ?_)
            clear hK K
            try simp only [List.getElem_toArray, List.getElem_cons_zero, List.getElem_cons_succ, Act.put, List.setIfInBounds_toArray, List.set_cons_zero, List.set_cons_succ]
            refine wpAnyH_ready (rs := [7]) (by kernel_rfl) (by simp) ?_
            refine AllReadyH.cons rfl (fun K hK => ?_) AllReadyH.nil
            go_simp
            go_at_call 124; refine (get_num g 18 238 (cap - 18) (B.drop 18) 4 _ (by decide) (by decide) (by omega) hl18 (HCD.out 18 _ (HB15.out.trans (HB6.out.mono HB15.out.size)))).mono ?_; rw [show unbe ((B.drop 18).take 4) = x18 from HX18.out.symm]; rintro e w7 ⟨rfl, rfl⟩
            try go_wp2_with fail
            refine hK.out _ _ trivial (fun hHeld => ?_)
            clear hK K
            try simp only [List.getElem_toArray, List.getElem_cons_zero, List.getElem_cons_succ, Act.put, List.setIfInBounds_toArray, List.set_cons_zero, List.set_cons_succ]
            refine wpAnyH_take (i := 8) (v := ?_) rfl (by kernel_rfl) (by kernel_rfl) (by kernel_rfl) (fun _ _ _ h => h) (Or.inl ⟨by rfl, ?_⟩) trivial ?_
            rotate_left
            · intro w' _
              go_simp
              try with_reducible rfl
            try simp only [List.getElem_toArray, List.getElem_cons_zero, List.getElem_cons_succ, Act.put, List.setIfInBounds_toArray, List.set_cons_zero, List.set_cons_succ]
            refine wpAnyH_take (i := 9) (v := ?_) rfl (by kernel_rfl) (by kernel_rfl) (by kernel_rfl) (fun _ _ _ h => h) (Or.inl ⟨by rfl, ?_⟩) trivial ?_
            rotate_left
            · intro w' _
              go_simp
              try with_reducible rfl
            try simp only [List.getElem_toArray, List.getElem_cons_zero, List.getElem_cons_succ, Act.put, List.setIfInBounds_toArray, List.set_cons_zero, List.set_cons_succ]
            refine wpAnyH_take (i := 10) (v := ?_) rfl (by kernel_rfl) (by kernel_rfl) (by kernel_rfl) (fun _ _ _ h => h) (Or.inl ⟨by rfl, ?_⟩) trivial ?_
            rotate_left
            · intro w' _
              go_simp
              try with_reducible rfl
            try simp only [List.getElem_toArray, List.getElem_cons_zero, List.getElem_cons_succ, Act.put, List.setIfInBounds_toArray, List.set_cons_zero, List.set_cons_succ]
            refine wpAnyH_take (i := 11) (v := ?_) rfl (by kernel_rfl) (by kernel_rfl) (by kernel_rfl) (fun _ _ _ h => h) (Or.inl ⟨by rfl, ?_⟩) trivial ?_
            rotate_left
            · intro w' _
              go_simp
              try with_reducible rfl
            try simp only [List.getElem_toArray, List.getElem_cons_zero, List.getElem_cons_succ, Act.put, List.setIfInBounds_toArray, List.set_cons_zero, List.set_cons_succ]
            refine wpAnyH_take (i := 12) (v := undef) rfl (by kernel_rfl) (by kernel_rfl) (by kernel_rfl) (fun _ _ _ h => h) (Or.inr ⟨by go_simp, rfl⟩) trivial ?_
            try simp only [List.getElem_toArray, List.getElem_cons_zero, List.getElem_cons_succ, Act.put, List.setIfInBounds_toArray, List.set_cons_zero, List.set_cons_succ]
            refine wpAnyH_take (i := 13) (v := undef) rfl (by kernel_rfl) (by kernel_rfl) (by kernel_rfl) (fun _ _ _ h => h) (Or.inr ⟨by go_simp, rfl⟩) trivial ?_
            try simp only [List.getElem_toArray, List.getElem_cons_zero, List.getElem_cons_succ, Act.put, List.setIfInBounds_toArray, List.set_cons_zero, List.set_cons_succ]
            refine wpAnyH_take (i := 14) (v := undef) rfl (by kernel_rfl) (by kernel_rfl) (by kernel_rfl) (fun _ _ _ h => h) (Or.inr ⟨by go_simp, rfl⟩) trivial ?_
            try simp only [List.getElem_toArray, List.getElem_cons_zero, List.getElem_cons_succ, Act.put, List.setIfInBounds_toArray, List.set_cons_zero, List.set_cons_succ]
            refine wpAnyH_take (i := 15) (v := undef) rfl (by kernel_rfl) (by kernel_rfl) (by kernel_rfl) (fun _ _ _ h => h) (Or.inr ⟨by go_simp, rfl⟩) trivial ?_
            try simp only [List.getElem_toArray, List.getElem_cons_zero, List.getElem_cons_succ, Act.put, List.setIfInBounds_toArray, List.set_cons_zero, List.set_cons_succ]
            refine wpAnyH_take (i := 16) (v := undef) rfl (by kernel_rfl) (by kernel_rfl) (by kernel_rfl) (fun _ _ _ h => h) (Or.inr ⟨by go_simp, rfl⟩) trivial ?_
            try simp only [List.getElem_toArray, List.getElem_cons_zero, List.getElem_cons_succ, Act.put, List.setIfInBounds_toArray, List.set_cons_zero, List.set_cons_succ]
            refine wpAnyH_take (i := 17) (v := ?_) rfl (by kernel_rfl) (by kernel_rfl) (by kernel_rfl) (fun _ _ _ h => h) (Or.inl ⟨by rfl, ?_⟩) trivial ?_
            rotate_left
            · intro w' _
              go_simp
              try with_reducible rfl
            try simp only [List.getElem_toArray, List.getElem_cons_zero, List.getElem_cons_succ, Act.put, List.setIfInBounds_toArray, List.set_cons_zero, List.set_cons_succ]
            refine wpAnyH_take (i := 18) (v := ?_) rfl (by kernel_rfl) (by kernel_rfl) (by kernel_rfl) (fun _ _ _ h => h) (Or.inl ⟨by rfl, ?_⟩) trivial ?_
            rotate_left
            · intro w' _
              go_simp
              try with_reducible rfl
            try simp only [List.getElem_toArray, List.getElem_cons_zero, List.getElem_cons_succ, Act.put, List.setIfInBounds_toArray, List.set_cons_zero, List.set_cons_succ]
            refine wpAnyH_take (i := 19) (v := undef) rfl (by kernel_rfl) (by kernel_rfl) (by kernel_rfl) (fun _ _ _ h => h) (Or.inr ⟨by go_simp, rfl⟩) trivial ?_
            try simp only [List.getElem_toArray, List.getElem_cons_zero, List.getElem_cons_succ, Act.put, List.setIfInBounds_toArray, List.set_cons_zero, List.set_cons_succ]
            refine wpAnyH_take (i := 20) (v := undef) rfl (by kernel_rfl) (by kernel_rfl) (by kernel_rfl) (fun _ _ _ h => h) (Or.inr ⟨by go_simp, rfl⟩) trivial ?_
            try simp only [List.getElem_toArray, List.getElem_cons_zero, List.getElem_cons_succ, Act.put, List.setIfInBounds_toArray, List.set_cons_zero, List.set_cons_succ]
            refine wpAnyH_take (i := 21) (v := undef) rfl (by kernel_rfl) (by kernel_rfl) (by kernel_rfl) (fun _ _ _ h => h) (Or.inr ⟨by go_simp, rfl⟩) trivial ?_
            try simp only [List.getElem_toArray, List.getElem_cons_zero, List.getElem_cons_succ, Act.put, List.setIfInBounds_toArray, List.set_cons_zero, List.set_cons_succ]
            refine wpAnyH_take (i := 22) (v := undef) rfl (by kernel_rfl) (by kernel_rfl) (by kernel_rfl) (fun _ _ _ h => h) (Or.inr ⟨by go_simp, rfl⟩) trivial ?_
            try simp only [List.getElem_toArray, List.getElem_cons_zero, List.getElem_cons_succ, Act.put, List.setIfInBounds_toArray, List.set_cons_zero, List.set_cons_succ]
            refine wpAnyH_take (i := 23) (v := undef) rfl (by kernel_rfl) (by kernel_rfl) (by kernel_rfl) (fun _ _ _ h => h) (Or.inr ⟨by go_simp, rfl⟩) trivial ?_
            try simp only [List.getElem_toArray, List.getElem_cons_zero, List.getElem_cons_succ, Act.put, List.setIfInBounds_toArray, List.set_cons_zero, List.set_cons_succ]
            refine wpAnyH_take (i := 24) (v := undef) rfl (by kernel_rfl) (by kernel_rfl) (by kernel_rfl) (fun _ _ _ h => h) (Or.inr ⟨by go_simp, rfl⟩) trivial ?_
            try simp only [List.getElem_toArray, List.getElem_cons_zero, List.getElem_cons_succ, Act.put, List.setIfInBounds_toArray, List.set_cons_zero, List.set_cons_succ]
            refine wpAnyH_take (i := 25) (v := undef) rfl (by kernel_rfl) (by kernel_rfl) (by kernel_rfl) (fun _ _ _ h => h) (Or.inr ⟨by go_simp, rfl⟩) trivial ?_
            try simp only [List.getElem_toArray, List.getElem_cons_zero, List.getElem_cons_succ, Act.put, List.setIfInBounds_toArray, List.set_cons_zero, List.set_cons_succ]
            refine wpAnyH_take (i := 26) (v := ?_) rfl (by kernel_rfl) (by kernel_rfl) (by kernel_rfl) (fun _ _ _ h => h) (Or.inl ⟨by rfl, ?_⟩) trivial ?_
            rotate_left
            · intro w' _
              go_simp
              try with_reducible rfl
            try simp only [List.getElem_toArray, List.getElem_cons_zero, List.getElem_cons_succ, Act.put, List.setIfInBounds_toArray, List.set_cons_zero, List.set_cons_succ]
            refine wpAnyH_done (by kernel_rfl) ?_ _
            all_goals
              go_wp2
              go_ret
              refine ⟨HBw5.out.trans (HB6.out.mono HBw5.out.size), .inl ⟨?_, rfl⟩⟩
              rw [HR.out]
              split
              · rw [← HX14.out, ← HX12.out, HSOME.out, Option.bind_some, ← HIX.out, ← HCX.out, ← HX18.out, if_neg fun h => HCC.out h.1]
              · rfl
    · have tc : ((x22 : Int) != c22) = true := by simpa using hc
      have HC := Lib.hid hc
      clear hx22 hc22 hc
      go_region_law
        ((first
          | ((try go_simp); go_at_call 112; refine ((S22.out.below HB2.out).crc (by decide)).mono ?_; rw [← HC22.out]; rintro e w3 ⟨rfl, hb3⟩; have HB3 := Lib.hid hb3; clear hb3)
          | ((try go_simp); go_at_call 124; refine (get_sl (T22.out.below ((Below.refl _ w1).drew_)) 4 (by decide) (by decide) (by decide)).mono ?_; rw [numAt_drop, ← HX22.out]; rintro e w2 ⟨rfl, rfl⟩; have HB2 : Hid (Below w1.heap.size w1 w1.drew) := (Below.refl _ w1).drew_)))
      all_goals
        go_wp2
        go_ret
        refine ⟨HB1.out.trans ((HB2.out.trans (HB3.out.mono HB2.out.size)).mono HB1.out.size), .inl ⟨?_, rfl⟩⟩
        rw [HR.out, if_neg fun h => HC.out (by rw [HX22.out, HC22.out]; exact h.2.1)]
  · have tm : (z4.toList == [65, 82, 67, 86]) = false := by rw [hzl]; simpa using hm
    have HM := Lib.hid hm
    clear hm hzl
    go_region
    go_wp2
    go_ret
    refine ⟨HB1.out.drew_, .inl ⟨?_, rfl⟩⟩
    rw [HR.out, if_neg fun h => HM.out h.1]

end Go.Proofs.YtbgiklkpinflaaaGreat
