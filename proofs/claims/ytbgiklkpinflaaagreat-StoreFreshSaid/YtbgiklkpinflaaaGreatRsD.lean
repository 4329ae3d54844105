/- The reference's store: Free. The reference's store: Need, Made. -/
import Derived.Test.YtbgiklkpinflaaaGreatRsC

namespace Go.Proofs.YtbgiklkpinflaaaGreat
open Go.RowKit Go.Shelf
attribute [local go_sem ↓] Go.wp_at_zero Go.wp_at_succ

def StsOk (l : List RSt) : Prop := ∀ t ∈ l, t.ents.length ≤ 100 ∧ ∀ e ∈ t.ents, EntOk e
theorem usedE_le {a : Nat × List Nat} {e : Ent} (h : EntOk e) : (usedE a e).1 ≤ a.1 + 274 ∧ (usedE a e).2.length ≤ a.2.length + 1 := by
  have := h.2
  unfold usedE blocksFor
  split
  · omega
  · simp only [List.length_append, List.length_singleton]
    omega
theorem usedE_fold : ∀ {l : List Ent} {a : Nat × List Nat}, (∀ e ∈ l, EntOk e) → (l.foldl usedE a).1 ≤ a.1 + 274 * l.length ∧ (l.foldl usedE a).2.length ≤ a.2.length + l.length
  | [], a, _ => by simp
  | e :: l, a, h => by
    have h1 := usedE_le (a := a) (h e (by simp))
    have h2 := usedE_fold (l := l) (a := usedE a e) fun x hx => h x (by simp [hx])
    simp only [List.foldl_cons, List.length_cons]
    omega
theorem usedS_le {a : Nat × List Nat} {t : RSt} (h : t.ents.length ≤ 100 ∧ ∀ e ∈ t.ents, EntOk e) : (usedS a t).1 ≤ a.1 + 27700 ∧ (usedS a t).2.length ≤ a.2.length + 100 := by
  have h1 := usedE_fold (l := t.ents) (a := (a.1 + indexOf t.ents, a.2)) h.2
  have h2 := indexOf_le h.2 h.1
  have h3 := h.1
  unfold usedS
  simp only at h1
  omega
theorem usedS_fold : ∀ {l : List RSt} {a : Nat × List Nat}, StsOk l → (l.foldl usedS a).1 ≤ a.1 + 27700 * l.length ∧ (l.foldl usedS a).2.length ≤ a.2.length + 100 * l.length
  | [], a, _ => by simp
  | e :: l, a, h => by
    have h1 := usedS_le (a := a) (h e (by simp))
    have h2 := usedS_fold (l := l) (a := usedS a e) fun x hx => h x (by simp [hx])
    simp only [List.foldl_cons, List.length_cons]
    omega
theorem foldl_take {α β : Type} (f : β → α → β) (a : β) {l : List α} {j : Nat} {x : α} (h : l[j]? = some x) : (l.take (j + 1)).foldl f a = f ((l.take j).foldl f a) x := by
  obtain ⟨hj, rfl⟩ := List.getElem?_eq_some_iff.1 h
  rw [List.take_succ_eq_append_getElem hj, List.foldl_append]
  rfl
theorem contains_take {l : List Nat} {m y : Nat} (h : m < l.length) : (l.take (m + 1)).contains y = ((l.take m).contains y || (y == l[m])) := by
  rw [List.take_succ_eq_append_getElem h, List.contains_append, List.contains_cons, List.contains_nil, Bool.or_false]
/-- The numbers seen. -/
def SeenAt (w : World) (base : Nat) (v : Value) (l : List Nat) : Prop := w.ownsRow base 3 1 v l.length (l.map Go.Proofs.YtbgiklkpinflaaaGreat.nv)
theorem SeenAt.below {w w' : World} {base : Nat} {v : Value} {l : List Nat} (h : SeenAt w base v l) (hb : Below w.heap.size w w') : SeenAt w' base v l := ownsRow_keeps h (Keeps.of_below (F := fun _ => False) hb) (fun _ _ h => h)
theorem SeenAt.cells {w : World} {base : Nat} {v : Value} {l : List Nat} (h : SeenAt w base v l) : ∃ A c, v = .slice A l.length c ∧ ∀ (j : Nat) (hj : j < l.length), ∃ g, A = some ⟨g, 0, none⟩ ∧ base ≤ g ∧ w.cell? ⟨g, j, none⟩ = some (.int .i64 (l[j] : Int)) := by
  obtain ⟨A, c, e, hc⟩ := row_cells h
  exact ⟨A, c, e, fun j hj => hc j _ (by simp [hj, Go.Proofs.YtbgiklkpinflaaaGreat.nv])⟩

set_option maxRecDepth 100000 in
set_option maxHeartbeats 16000000 in
theorem ref_free {w : World} {r : Nat} {R : RSto} {S : List Nat} (h : RefAt w r R S) (hpn : R.pins.length ≤ 1000) (hok : StsOk (statesOf R.now R.pins)) (hbl : R.blocks ≤ 1024) :
    Calls Tryz.prog 20 #[.pointer (some ⟨r, 0, none⟩)] w fun e w' => e = .returned (.int .i64 R.free) ∧ Below w.heap.size w w' := by
  have HS := Lib.hid (states_calls h hpn)
  obtain ⟨nv0, xv0, pv0, qs0, hp, rfl⟩ := h
  have HBL := Lib.hid hp.blk
  have hrw := hp.blk.lt
  obtain ⟨ii, hii, hiz0, hiz1, hiz2⟩ := info_parts Tryz.infoInt
  have HOK := Lib.hid hok
  obtain ⟨F, hF⟩ : ∃ F : Int, F = R.free := ⟨_, rfl⟩
  have HF := Lib.hid hF
  rw [← hF]
  clear hp hok hF
  go_enter Tryz.func20, Tryz.ntmps20
  go_wp2_with (go_at_call 67; refine HS.out.mono ?_; rintro e w1 ⟨v, ts, rfl, hst, hts, hb1⟩; obtain ⟨At, ct, rfl, hcell⟩ := hst.cells; have HST := Lib.hid hst; have HTS := Lib.hid hts; have HB1 := Lib.hid hb1; have HCELL := Lib.hid hcell; clear hst hts hb1 hcell)
  have hn : ts.length ≤ 1001 := by
    have h1 := congrArg List.length HTS.out
    have h2 : (statesOf R.now R.pins).length ≤ 1 + R.pins.length := by
      unfold statesOf
      have : ∀ (l : List (RSt × Bool)) (o : List RSt), (l.foldl addSt o).length ≤ o.length + l.length := by
        intro l
        induction l with
        | nil => intro o; simp
        | cons x l ih =>
          intro o
          have := ih (addSt o x)
          have h3 : (addSt o x).length ≤ o.length + 1 := by
            unfold addSt
            split
            · simp
            · omega
          simp only [List.foldl_cons, List.length_cons]
          omega
      exact this _ _
    rw [List.length_map] at h1
    omega
  have hw1 := HB1.out.size
  have HTOK : Hid (∀ j (hj : j < ts.length), ts[j].1.ents.length ≤ 100 ∧ ∀ e ∈ ts[j].1.ents, EntOk e) := by
    show ∀ j (hj : j < ts.length), _
    intro j hj
    exact HOK.out _ (by rw [← HTS.out]; exact List.mem_map.2 ⟨_, List.getElem_mem hj, rfl⟩)
  have HAOK : Hid (∀ j, (((ts.map (·.1)).take j).foldl usedS (2, [])).1 ≤ 2 + 27700 * 1001 ∧ (((ts.map (·.1)).take j).foldl usedS (2, [])).2.length ≤ 100 * 1001) := by
    show ∀ j, _
    intro j
    have h1 := usedS_fold (l := (ts.map (·.1)).take j) (a := (2, [])) (fun t ht => HOK.out t (by rw [← HTS.out]; exact List.mem_of_mem_take ht))
    have h2 : ((ts.map (·.1)).take j).length ≤ 1001 := by rw [List.length_take, List.length_map]; omega
    simp only [List.length_nil] at h1
    omega
  go_loopw [3, 4, 15] (fun u s x wr => ∃ j : Nat, j ≤ ts.length ∧ x = .int .i64 j ∧ u = .int .i64 ((((ts.map (·.1)).take j).foldl usedS (2, [])).1 : Int) ∧ SeenAt wr w1.heap.size s (((ts.map (·.1)).take j).foldl usedS (2, [])).2 ∧ Below w1.heap.size w1 wr) (fun _ _ x _ => ts.length - (intOf x).toNat)
  case atStart => exact ⟨0, Nat.zero_le _, rfl, rfl, ⟨by simp, .inl ⟨rfl, rfl⟩⟩, Below.refl _ _⟩
  case round =>
    obtain ⟨j, hj, rfl, rfl, hsn, hM⟩ := hrel
    obtain ⟨wo, hwo⟩ : ∃ wo : World, wo = wr := ⟨_, rfl⟩
    subst hwo
    have HSN := Lib.hid hsn
    have HM := Lib.hid hM
    obtain ⟨hu1, hu2⟩ := HAOK.out j
    have HAJ : Hid (∀ t, (ts.map (·.1))[j]? = some t → ((ts.map (·.1)).take (j + 1)).foldl usedS (2, []) = usedS (((ts.map (·.1)).take j).foldl usedS (2, [])) t) := fun t ht => foldl_take _ _ ht
    obtain ⟨a0, ha0⟩ : ∃ a0, a0 = ((ts.map (·.1)).take j).foldl usedS (2, []) := ⟨_, rfl⟩
    rw [← ha0] at hsn HSN hu1 hu2 HAJ ⊢
    have HA0 := Lib.hid ha0
    obtain ⟨As, cs, rfl, _⟩ := hsn.cells
    clear ha0 hsn
    by_cases hlt : j < ts.length
    · have tk : decide ((j : Int) < (ts.length : Int)) = true := by simp; omega
      obtain ⟨g, rfl, hg, q0, q1⟩ := HCELL.out j _ (List.getElem?_eq_getElem hlt)
      have htm : ts[j] ∈ ts := List.getElem_mem hlt
      have hE := HST.out.2 _ htm
      obtain ⟨Ae, ce, hq2⟩ := hE.slice
      rw [hq2] at q1 hE
      have q0 := (hM.cell (World.block_lt_of_cell? w1 _ q0)).trans q0
      have q1 := (hM.cell (World.block_lt_of_cell? w1 _ q1)).trans q1
      obtain ⟨hel, heo⟩ := HTOK.out j hlt
      have hT2 := HAJ.out ts[j].1 (by rw [List.getElem?_map, List.getElem?_eq_getElem hlt]; rfl)
      obtain ⟨t, ht⟩ : ∃ t, t = ts[j].1 := ⟨_, rfl⟩
      rw [← ht] at q0 q1 hE hel heo hT2
      have HT2 := Lib.hid hT2
      have HE1 := Lib.hid hE
      have HE := Lib.hid (hE.below hM)
      have HEO := Lib.hid heo
      have hix := indexOf_le heo hel
      have HIX : Hid (∀ o, Calls Tryz.prog 68 #[.agg #[.int .i64 (t.gen : Int), .slice Ae t.ents.length ce]] (wo.alloc o) fun e w' => e = .returned (.int .i64 (indexOf t.ents : Int)) ∧ Below (wo.alloc o).heap.size (wo.alloc o) w') := fun o => index_calls_ref (HE.out.below ((Below.refl _ wo).alloc (Nat.le_refl _) o)) (t.gen : Int) (by omega) HEO.out
      obtain ⟨I, hI⟩ : ∃ I, I = indexOf t.ents := ⟨_, rfl⟩
      rw [← hI] at hix HIX
      have HII := Lib.hid hI
      have hbx : Blk (wo.alloc (.cells #[.int .i64 (t.gen : Int), .slice Ae t.ents.length ce] 46)) wo.heap.size 46 #[.int .i64 (t.gen : Int), .slice Ae t.ents.length ce] := Blk.new wo _ _
      have HBX := Lib.hid hbx
      clear hM hE htm hq2 ht hT2 heo hI hbx
      go_wp2_with (go_at_call 68; refine (HIX.out _).mono ?_; rintro e w2 ⟨rfl, hb2⟩; have HB2 : Hid (Below wo.heap.size wo w2) := ((Below.refl _ wo).alloc (Nat.le_refl _) _).trans (hb2.mono (by simp)); have y1 := (HBX.out.below hb2 HBX.out.lt).cell 1; clear hb2)
      obtain ⟨pse, hpse, hpe⟩ := HE1.out
      have hpel : pse.length = t.ents.length := by rw [← hpse, List.length_map]
      obtain ⟨Ae', ce', hve, hrow⟩ := hpe.row
      have HROW := Lib.hid hrow
      have HPB := Lib.hid hpe.2
      have HPSE := Lib.hid hpse
      have HPEL := Lib.hid hpel
      injection hve with hA1 hA2 hA3
      subst hA1 hA3
      have hpel1 : pse.length ≤ 100 := by omega
      have HBOK : Hid (∀ i, ((t.ents.take i).foldl usedE (a0.1 + I, a0.2)).1 ≤ 30000000 ∧ ((t.ents.take i).foldl usedE (a0.1 + I, a0.2)).2.length ≤ 200000) := by
        show ∀ i, _
        intro i
        have h1 := usedE_fold (l := t.ents.take i) (a := (a0.1 + I, a0.2)) (fun e he => HEO.out e (List.mem_of_mem_take he))
        have h2 : (t.ents.take i).length ≤ 100 := by rw [List.length_take]; omega
        simp only at h1
        omega
      rw [HPEL.out.symm]
      have hw2 : w1.heap.size ≤ w2.heap.size := Nat.le_trans HM.out.size HB2.out.size
      clear hA2 hrow hpe hpse hpel
      go_loopw [3, 4, 26] (fun u s x wm => ∃ i : Nat, i ≤ pse.length ∧ x = .int .i64 i ∧ u = .int .i64 (((t.ents.take i).foldl usedE (a0.1 + I, a0.2)).1 : Int) ∧ SeenAt wm w1.heap.size s ((t.ents.take i).foldl usedE (a0.1 + I, a0.2)).2 ∧ Below w1.heap.size w1 wm) (fun _ _ x _ => pse.length - (intOf x).toNat)
      case atStart => exact ⟨0, Nat.zero_le _, rfl, by simp, HSN.out.below HB2.out, HM.out.trans (HB2.out.mono HM.out.size)⟩
      case round =>
        obtain ⟨i, hi, rfl, rfl, hsn, hM2⟩ := hrel
        obtain ⟨wm, hwm⟩ : ∃ wm : World, wm = wr := ⟨_, rfl⟩
        subst hwm
        have HSN2 := Lib.hid hsn
        have HM2 := Lib.hid hM2
        obtain ⟨hv1, hv2⟩ := HBOK.out i
        have HBI : Hid (∀ e, t.ents[i]? = some e → (t.ents.take (i + 1)).foldl usedE (a0.1 + I, a0.2) = usedE ((t.ents.take i).foldl usedE (a0.1 + I, a0.2)) e) := fun e he => foldl_take _ _ he
        obtain ⟨b, hb⟩ : ∃ b, b = (t.ents.take i).foldl usedE (a0.1 + I, a0.2) := ⟨_, rfl⟩
        rw [← hb] at hsn HSN2 hv1 hv2 HBI ⊢
        have HB0 := Lib.hid hb
        obtain ⟨As2, cs2, rfl, hsc⟩ := hsn.cells
        have HSC := Lib.hid hsc
        clear hb hsn hsc
        by_cases hlt2 : i < pse.length
        · have tk2 : decide ((i : Int) < (pse.length : Int)) = true := by simp; omega
          obtain ⟨ge, rfl, z0, z1, z2⟩ := HROW.out i _ (List.getElem?_eq_getElem hlt2)
          obtain ⟨gx, cx, curx, hvx, _⟩ := (HPB.out _ (List.getElem_mem hlt2)).cells
          rw [hvx] at z1
          have z0 := (hM2.cell (World.block_lt_of_cell? w1 _ z0)).trans z0
          have z1 := (hM2.cell (World.block_lt_of_cell? w1 _ z1)).trans z1
          have z2 := (hM2.cell (World.block_lt_of_cell? w1 _ z2)).trans z2
          have hie : t.ents[i]? = some pse[i].1 := by rw [← HPSE.out, List.getElem?_map, List.getElem?_eq_getElem hlt2]; rfl
          have hT3 := HBI.out _ hie
          have hval := (HEO.out _ (List.mem_of_getElem? hie)).2
          obtain ⟨x, hx⟩ : ∃ x, x = pse[i] := ⟨_, rfl⟩
          rw [← hx] at z0 z1 z2 hT3 hval
          have HT3 := Lib.hid hT3
          have hw3 : w1.heap.size ≤ wm.heap.size := hM2.size
          obtain ⟨X, hX⟩ : ∃ X : Obj, X = .cells #[.string x.1.key, .slice (some ⟨gx, 0, none⟩) x.1.val.length cx, .int .i64 (x.1.id : Int)] 114 := ⟨_, rfl⟩
          have hbx : Blk (wm.alloc X) wm.heap.size 114 #[.string x.1.key, .slice (some ⟨gx, 0, none⟩) x.1.val.length cx, .int .i64 (x.1.id : Int)] := by rw [hX]; exact Blk.new wm _ _
          have HBX2 := Lib.hid hbx
          have HXX := Lib.hid hX
          clear hM2 hvx hie hT3 hx hX hbx
          go_wp2
          rw [← HXX.out]
          go_loopw [9, 32] (fun kv y wi => ∃ m : Nat, m ≤ b.2.length ∧ y = .int .i64 m ∧ kv = .bool ((b.2.take m).contains x.1.id) ∧ Below (wm.alloc X).heap.size (wm.alloc X) wi) (fun _ y _ => b.2.length - (intOf y).toNat)
          case atStart => exact ⟨0, Nat.zero_le _, rfl, rfl, Below.refl _ _⟩
          case round =>
            obtain ⟨m, hm, rfl, rfl, hB⟩ := hrel
            have HB := Lib.hid hB
            have p2 : wr.cell? ⟨wm.heap.size, 2, none⟩ = some (.int .i64 (x.1.id : Int)) := (HBX2.out.below hB HBX2.out.lt).cell 2
            have p1 : wr.cell? ⟨wm.heap.size, 1, none⟩ = some (.slice (some ⟨gx, 0, none⟩) x.1.val.length cx) := (HBX2.out.below hB HBX2.out.lt).cell 1
            have hwr : wm.heap.size + 1 ≤ wr.heap.size := by have := hB.size; rw [World.size_alloc] at this; exact this
            by_cases hlt3 : m < b.2.length
            · have tk3 : decide ((m : Int) < (b.2.length : Int)) = true := by simp; omega
              obtain ⟨gs, rfl, _, s0⟩ := HSC.out m hlt3
              have hb0 : Below wm.heap.size wm wr := ((Below.refl _ wm).alloc (Nat.le_refl _) X).trans (hB.mono (by simp))
              have s0 := (hb0.cell (World.block_lt_of_cell? wm _ s0)).trans s0
              have HCT := Lib.hid (contains_take (y := x.1.id) hlt3)
              obtain ⟨sm, hsm⟩ : ∃ sm, sm = b.2[m] := ⟨_, rfl⟩
              rw [← hsm] at s0 HCT
              obtain ⟨kb, hkb⟩ : ∃ kb, kb = (b.2.take m).contains x.1.id := ⟨_, rfl⟩
              rw [← hkb] at HCT ⊢
              clear hB hb0 hsm hkb
              cases kb with
              | true =>
                go_wp2
                go_roundw
                case rel => exact ⟨m + 1, by omega, by go_num, by rw [HCT.out]; rfl, HB.out⟩
                case measure => simp [intOf]; omega
              | false =>
                by_cases he : sm = x.1.id
                · have he2 : ((sm : Int) == (x.1.id : Int)) = true := by simp [he]
                  have HE2 := Lib.hid he
                  clear he
                  go_wp2
                  go_roundw
                  case rel => exact ⟨m + 1, by omega, by go_num, by rw [HCT.out, HE2.out]; simp, HB.out⟩
                  case measure => simp [intOf]; omega
                · have he2 : ((sm : Int) == (x.1.id : Int)) = false := by rw [beq_eq_false_iff_ne]; omega
                  have HE2 := Lib.hid he
                  clear he
                  go_wp2
                  go_roundw
                  case rel =>
                    refine ⟨m + 1, by omega, by go_num, ?_, HB.out⟩
                    rw [HCT.out]
                    have : (x.1.id == sm) = false := by rw [beq_eq_false_iff_ne]; exact fun e => HE2.out e.symm
                    rw [this]
                    rfl
                  case measure => simp [intOf]; omega
            · obtain rfl : m = b.2.length := by omega
              have tk3 : decide ((b.2.length : Int) < b.2.length) = false := by simp
              have HBXR := Lib.hid (HBX2.out.below hB HBX2.out.lt)
              have HB00 : Hid (Below wm.heap.size wm wr) := ((Below.refl _ wm).alloc (Nat.le_refl _) X).trans (hB.mono (by simp))
              rw [List.take_length]
              obtain ⟨kb, hkb⟩ : ∃ kb, kb = b.2.contains x.1.id := ⟨_, rfl⟩
              rw [← hkb]
              have HKB := Lib.hid hkb
              clear hB hkb
              cases kb with
              | true =>
                go_wp2
                go_roundw
                case rel =>
                  have e : usedE b x.1 = b := by unfold usedE; rw [if_pos HKB.out.symm]
                  refine ⟨i + 1, by omega, by go_num, ?_, ?_, HM2.out.trans (HB00.out.mono HM2.out.size)⟩
                  · rw [HT3.out, e]
                  · rw [HT3.out, e]
                    exact HSN2.out.below HB00.out
                case measure => simp [intOf]; omega
              | false =>
                have HSB := Lib.hid (HSN2.out.below HB00.out)
                have hwz : w1.heap.size ≤ wr.heap.size := by omega
                have hpc : (x.1.val.length + 239) / 240 ≤ 274 := by omega
                go_wp2_with (first
                  | (at_builtin; refine wpList_append_own _ rfl _ _ 117 rfl w1.heap.size 3 ii (.int .i64 0) 1 8 Tryz.underlying117 hii hiz0 hiz1 hiz2 rfl (by decide) _ _ _ rfl (HSB.out.alloc _) ⟨wr.heap.size, 0, none⟩ 1 1 [.int .i64 (x.1.id : Int)] rfl rfl ?_ ?_ ?_ ?_ ?_ ?_; exact cell_one_new _ _ _; simp [Value.oneCell']; (unfold maxLen; omega); omega; (simp; omega); intro v3 w3 hown3 hg3 _; have HO3 := Lib.hid hown3; have HG3 := Lib.hid hg3; have HB3 : Hid (Below w1.heap.size w1 w3) := ((HM2.out.trans (HB00.out.mono HM2.out.size)).alloc (by have := HM2.out.size; have := HB00.out.size; omega) _).grown hg3 (by simp; have := HM2.out.size; have := HB00.out.size; omega) (fun q hq => own_base HSB.out hq); have hno : (Value.slice As2 b.2.length cs2).ownBlock ≠ some wm.heap.size := own_blk_ne HSB.out (HBXR.out) (by decide); have p13 : w3.cell? ⟨wm.heap.size, 1, none⟩ = some (.slice (some ⟨gx, 0, none⟩) x.1.val.length cx) := ((HBXR.out.alloc _).grown hg3 hno).cell 1; clear hown3 hg3 hno)
                  | (go_at_call 69; refine (parts_calls _ _ (by omega)).mono ?_; rintro e w4 ⟨rfl, rfl⟩))
                go_roundw
                case rel =>
                  have e : usedE b x.1 = (b.1 + blocksFor x.1.val.length, b.2 ++ [x.1.id]) := by unfold usedE; rw [if_neg (by rw [← HKB.out]; simp)]
                  refine ⟨i + 1, by omega, by go_num, ?_, ?_, HB3.out⟩
                  · rw [HT3.out, e]
                    refine congrArg (Value.int IntKind.i64) ?_
                    show _ = ((b.1 + blocksFor x.1.val.length : Nat) : Int)
                    unfold blocksFor
                    omega
                  · rw [HT3.out, e]
                    have := HO3.out
                    show World.ownsRow _ _ _ _ _ (b.2 ++ [x.1.id]).length ((b.2 ++ [x.1.id]).map _)
                    rw [List.length_append, List.length_singleton, List.map_append]
                    exact this
                case measure => simp [intOf]; omega
        · obtain rfl : i = pse.length := by omega
          have tk2 : decide ((pse.length : Int) < pse.length) = false := by simp
          have hfin : b = ((t.ents).foldl usedE (a0.1 + I, a0.2)) := by rw [HB0.out, HPEL.out, List.take_length]
          have HFIN := Lib.hid hfin
          clear hfin hM2
          go_wp2
          go_roundw
          case rel =>
            have e : ((ts.map (·.1)).take (j + 1)).foldl usedS (2, []) = b := by
              rw [HT2.out, HFIN.out]
              unfold usedS
              rw [HII.out]
            exact ⟨j + 1, by omega, by go_num, by rw [e], by rw [e]; exact HSN2.out, HM2.out⟩
          case measure => simp [intOf]; omega
    · obtain rfl : j = ts.length := by omega
      have tk : decide ((ts.length : Int) < ts.length) = false := by simp
      have c0 : wo.cell? ⟨r, 0, none⟩ = some (.int .i64 (R.blocks : Int)) := ((HBL.out.below HB1.out HBL.out.lt).below hM (Nat.lt_of_lt_of_le hrw hw1)).cell 0
      clear hM
      go_wp2
      go_ret
      refine ⟨ret_int ?_, HB1.out.trans (HM.out.mono hw1)⟩
      have h1 := HA0.out
      rw [show (ts.map (·.1)).take ts.length = ts.map (·.1) from List.take_of_length_le (by simp), HTS.out] at h1
      rw [HF.out]
      unfold RSto.free usedOf
      rw [h1]

end Go.Proofs.YtbgiklkpinflaaaGreat

namespace Go.Proofs.YtbgiklkpinflaaaGreat
open Go.RowKit Go.Shelf
attribute [local go_sem ↓] Go.wp_at_zero Go.wp_at_succ

def EsOk (E : List Ent) : Prop := E.length ≤ 100 ∧ ∀ e ∈ E, EntOk e
def needSum (t : RSt) (l : List Ent) : Nat := (l.map (needE t)).sum
theorem needE_le {t : RSt} {e : Ent} (h : EntOk e) : needE t e ≤ 274 := by
  have := h.2
  unfold needE blocksFor
  split
  · split <;> omega
  · omega
theorem needSum_le {t : RSt} {l : List Ent} (h : ∀ e ∈ l, EntOk e) : needSum t l ≤ 274 * l.length := by
  unfold needSum
  induction l with
  | nil => simp
  | cons e l ih =>
    have := ih fun x hx => h x (List.mem_cons_of_mem _ hx)
    have := needE_le (t := t) (h e (List.mem_cons_self ..))
    simp only [List.map_cons, List.sum_cons, List.length_cons]
    omega
theorem needSum_take {t : RSt} {E : List Ent} {j : Nat} {e : Ent} (h : E[j]? = some e) : needSum t (E.take (j + 1)) = needSum t (E.take j) + needE t e := by
  obtain ⟨hj, rfl⟩ := List.getElem?_eq_some_iff.1 h
  unfold needSum
  rw [List.take_succ_eq_append_getElem hj, List.map_append, List.sum_append]
  simp

set_option maxRecDepth 100000 in
set_option maxHeartbeats 16000000 in
theorem ref_need {w : World} {r : Nat} {R : RSto} {S : List Nat} (h : RefAt w r R S) (hok : EsOk R.next.ents) (hon : R.now.ents.length ≤ 1000) :
    Calls Tryz.prog 30 #[.pointer (some ⟨r, 0, none⟩)] w fun e w' => e = .returned (.int .i64 (R.need : Int)) ∧ Below w.heap.size w w' := by
  obtain ⟨nv, xv, pv, qs, h1, rfl⟩ := h
  obtain ⟨An, cn, rfl⟩ := h1.now.slice
  obtain ⟨Ax, cx, rfl⟩ := h1.next.slice
  obtain ⟨hl, heo⟩ := hok
  have HX := Lib.hid (index_calls_ref h1.next (R.next.gen : Int) (by omega) heo)
  have hix := indexOf_le heo hl
  obtain ⟨I, hI⟩ : ∃ I, I = indexOf R.next.ents := ⟨_, rfl⟩
  rw [← hI] at HX hix
  have HI := Lib.hid hI
  have HB := Lib.hid h1.blk
  have HNOW := Lib.hid h1.now
  obtain ⟨ps, hps, hp⟩ := h1.next
  have hpl : ps.length = R.next.ents.length := by rw [← hps, List.length_map]
  obtain ⟨Ax', cx', hvx, hrow⟩ := hp.row
  have HROW := Lib.hid hrow
  have HPB := Lib.hid hp.2
  have HPS := Lib.hid hps
  injection hvx with e1 e2 e3
  subst e1 e3
  clear e2
  obtain ⟨ns, hns, hn⟩ := HNOW.out
  have hnl : ns.length = R.now.ents.length := by rw [← hns, List.length_map]
  obtain ⟨An', cn', hvn, hrown⟩ := hn.row
  have HROWN := Lib.hid hrown
  have HNS := Lib.hid hns
  injection hvn with e1 e2 e3
  subst e1 e3
  clear e2
  have HEO := Lib.hid heo
  have HPL := Lib.hid hpl
  have HNL := Lib.hid hnl
  have HSUM : Hid (∀ j, needSum R.now (R.next.ents.take j) ≤ 27400) := by
    show ∀ j, _
    intro j
    have := needSum_le (t := R.now) (l := R.next.ents.take j) fun e he => HEO.out e (List.mem_of_mem_take he)
    rw [List.length_take] at this
    omega
  have c3 := h1.blk.cell 3
  have c4 := h1.blk.cell 4
  have hrw := h1.blk.lt
  have hpl1 : ps.length ≤ 100 := by omega
  obtain ⟨N, hN⟩ : ∃ N : Nat, N = R.need := ⟨_, rfl⟩
  have HN := Lib.hid hN
  rw [← hN]
  clear h1 hI hN hp hn hrow hrown hps hns heo hpl hnl
  go_enter Tryz.func30, Tryz.ntmps30
  go_wp2_with (go_at_call 68; refine HX.out.mono ?_; rintro e w1 ⟨rfl, hb1⟩; have HB1 := Lib.hid hb1; have d4 := (HB.out.below hb1 HB.out.lt).cell 4; clear hb1)
  rw [← HPL.out]
  have hw1 := HB1.out.size
  go_loopw [3, 18] (fun n x wr => ∃ j : Nat, j ≤ ps.length ∧ x = .int .i64 j ∧ n = .int .i64 ((I : Int) + (needSum R.now (R.next.ents.take j) : Int)) ∧ Below w.heap.size w wr) (fun _ x _ => ps.length - (intOf x).toNat)
  case atStart => exact ⟨0, Nat.zero_le _, rfl, by simp [needSum], HB1.out⟩
  case round =>
    obtain ⟨j, hj, rfl, rfl, hM⟩ := hrel
    have HM := Lib.hid hM
    have hsum := HSUM.out j
    by_cases hlt : j < ps.length
    · have tk : decide ((j : Int) < (ps.length : Int)) = true := by simp; omega
      obtain ⟨g, rfl, q0, q1, q2⟩ := HROW.out j _ (List.getElem?_eq_getElem hlt)
      obtain ⟨gx, cgx, curx, hvx, _⟩ := (HPB.out _ (List.getElem_mem hlt)).cells
      rw [hvx] at q1
      have q0 := (hM.cell (World.block_lt_of_cell? w _ q0)).trans q0
      have q1 := (hM.cell (World.block_lt_of_cell? w _ q1)).trans q1
      have q2 := (hM.cell (World.block_lt_of_cell? w _ q2)).trans q2
      have hie : R.next.ents[j]? = some ps[j].1 := by rw [← HPS.out, List.getElem?_map, List.getElem?_eq_getElem hlt]; rfl
      have HT := Lib.hid (needSum_take (t := R.now) hie)
      have hval := (HEO.out _ (List.mem_of_getElem? hie)).2
      obtain ⟨x, hx⟩ : ∃ x, x = ps[j] := ⟨_, rfl⟩
      rw [← hx] at q0 q1 q2 HT hval
      obtain ⟨sm, hsm⟩ : ∃ sm, sm = needSum R.now (R.next.ents.take j) := ⟨_, rfl⟩
      rw [← hsm] at hsum HT ⊢
      have hbr := HB.out.below hM HB.out.lt
      obtain ⟨X, hX⟩ : ∃ X : Obj, X = .cells #[.string x.1.key, .slice (some ⟨gx, 0, none⟩) x.1.val.length cgx, .int .i64 (x.1.id : Int)] 114 := ⟨_, rfl⟩
      have hbx : Blk (wr.alloc X) wr.heap.size 114 #[.string x.1.key, .slice (some ⟨gx, 0, none⟩) x.1.val.length cgx, .int .i64 (x.1.id : Int)] := by rw [hX]; exact Blk.new wr _ _
      have HXX := Lib.hid hX
      have HBX := Lib.hid hbx
      have HBR := Lib.hid (hbr.alloc X)
      have HFI : Hid (∀ n, Calls Tryz.prog 81 #[.agg #[.int .i64 (R.now.gen : Int), .slice An R.now.ents.length cn], .string x.1.key] ((wr.alloc X).drewN n) fun e w' => e = .returned (.int .i64 (findInt R.now.ents x.1.key)) ∧ Below ((wr.alloc X).drewN n).heap.size ((wr.alloc X).drewN n) w') := by
        show ∀ n, _
        intro n
        exact find_calls (HNOW.out.below ((hM.alloc hM.size X).drewN_ n)) (R.now.gen : Int) x.1.key (by omega)
      have x0 := hbx.cell 0
      have x1 := hbx.cell 1
      have x2 := hbx.cell 2
      have r1 := (hbr.alloc X).cell 1
      have r2 := (hbr.alloc X).cell 2
      have x0 : (wr.alloc X).cell? ⟨wr.heap.size, 0, none⟩ = some (.string x.1.key) := x0
      have r1 : (wr.alloc X).cell? ⟨r, 1, none⟩ = some (.int .i64 (R.now.gen : Int)) := r1
      have r2 : (wr.alloc X).cell? ⟨r, 2, none⟩ = some (.slice An R.now.ents.length cn) := r2
      obtain ⟨fi1, fi2⟩ := find_ix (E := R.now.ents) (k := x.1.key)
      have hwr : w.heap.size ≤ wr.heap.size := hM.size
      clear hM hvx hie hx hsm hbr hX hbx
      go_wp2
      rw [← HXX.out]
      go_region_held3 (fun w' => w'.cell? ⟨wr.heap.size, 0, none⟩ = some (.string x.1.key) ∧ w'.cell? ⟨r, 1, none⟩ = some (.int .i64 (R.now.gen : Int)) ∧ w'.cell? ⟨r, 2, none⟩ = some (.slice An R.now.ents.length cn)) (go_keep)
        ((go_at_call 81; refine (HFI.out 1).mono ?_; rintro e w2 ⟨rfl, hb2⟩; have g0 : w2.cell? ⟨wr.heap.size, 0, none⟩ = some (.string x.1.key) := (hb2.cell (p := ⟨wr.heap.size, 0, none⟩) HBX.out.lt).trans x0; have g1 : w2.cell? ⟨r, 1, none⟩ = some (.int .i64 (R.now.gen : Int)) := (hb2.cell (p := ⟨r, 1, none⟩) HBR.out.lt).trans r1; have g2 : w2.cell? ⟨r, 2, none⟩ = some (.slice An R.now.ents.length cn) := (hb2.cell (p := ⟨r, 2, none⟩) HBR.out.lt).trans r2))
      all_goals
        have HB2 := Lib.hid (((HM.out.alloc HM.out.size X).drewN_ 1).trans (hb2.mono (by have := HM.out.size; simp; omega)))
        have y1 : w2.cell? ⟨wr.heap.size, 1, none⟩ = some (.slice (some ⟨gx, 0, none⟩) x.1.val.length cgx) := (hb2.cell (p := ⟨wr.heap.size, 1, none⟩) HBX.out.lt).trans x1
        have y2 : w2.cell? ⟨wr.heap.size, 2, none⟩ = some (.int .i64 (x.1.id : Int)) := (hb2.cell (p := ⟨wr.heap.size, 2, none⟩) HBX.out.lt).trans x2
        clear hb2 x0 x1 x2 r1 r2 q0 q1 q2
        have hpc : (x.1.val.length + 239) / 240 ≤ 274 := by omega
        rcases Int.lt_or_le (findInt R.now.ents x.1.key) 0 with hn | hn
        · have hne : needE R.now x.1 = blocksFor x.1.val.length := by unfold needE; rw [fi1 hn]
          have HNE := Lib.hid hne
          have t1 : decide (findInt R.now.ents x.1.key < 0) = true := by simpa using hn
          clear fi1 fi2 hne hn
          go_wp2
          go_quiet (fail)
          go_wp2_with (go_at_call 69; refine (parts_calls _ _ (by omega)).mono ?_; rintro e w4 ⟨rfl, rfl⟩)
          go_roundw
          case rel =>
            refine ⟨j + 1, by omega, by go_num, ?_, HB2.out.drewN_ _⟩
            rw [HT.out, HNE.out]
            refine congrArg (Value.int IntKind.i64) ?_
            unfold blocksFor
            omega
          case measure => simp [intOf]; omega
        · obtain ⟨i, z, hfi, hiz, hfe⟩ := fi2 hn
          have hne : needE R.now x.1 = if z.id = x.1.id then 0 else blocksFor x.1.val.length := by unfold needE; rw [hfe]
          have HNE := Lib.hid hne
          have hil : i < R.now.ents.length := (List.getElem?_eq_some_iff.1 hiz).1
          have hip : i < ns.length := by have := HNL.out; omega
          obtain ⟨gn, rfl, u0, u1, u2⟩ := HROWN.out i ns[i] (List.getElem?_eq_getElem hip)
          have hze : ns[i].1 = z := by
            have h1 : (ns.map (·.1))[i]? = some z := by rw [HNS.out]; exact hiz
            rw [List.getElem?_map, List.getElem?_eq_getElem hip] at h1
            simpa using h1
          rw [hze] at u2
          have u2 := (HB2.out.cell (World.block_lt_of_cell? w _ u2)).trans u2
          have t1 : decide ((i : Int) < 0) = false := by simp
          have hi0 : (0 : Int) ≤ (i : Int) := by omega
          have hi1 : (i : Int) < (R.now.ents.length : Int) := by omega
          rw [hfi]
          clear fi1 fi2 hne hn hfi hiz hfe u0 u1 hze
          by_cases he : z.id = x.1.id
          · have he2 : ((z.id : Int) == (x.1.id : Int)) = true := by simp [he]
            have he3 : ((z.id : Int) != (x.1.id : Int)) = false := by simp [he]
            have HE := Lib.hid he
            clear he
            go_wp2
            go_quiet (fail)
            go_wp2
            go_roundw
            case rel =>
              refine ⟨j + 1, by omega, by go_num, ?_, HB2.out.drewN_ _⟩
              rw [HT.out, HNE.out, if_pos HE.out]
              refine congrArg (Value.int IntKind.i64) ?_
              omega
            case measure => simp [intOf]; omega
          · have he2 : ((z.id : Int) == (x.1.id : Int)) = false := by rw [beq_eq_false_iff_ne]; omega
            have he3 : ((z.id : Int) != (x.1.id : Int)) = true := by rw [bne_iff_ne]; omega
            have HE := Lib.hid he
            clear he
            go_wp2
            go_quiet (fail)
            go_wp2_with (go_at_call 69; refine (parts_calls _ _ (by omega)).mono ?_; rintro e w4 ⟨rfl, rfl⟩)
            go_roundw
            case rel =>
              refine ⟨j + 1, by omega, by go_num, ?_, HB2.out.drewN_ _⟩
              rw [HT.out, HNE.out, if_neg HE.out]
              refine congrArg (Value.int IntKind.i64) ?_
              unfold blocksFor
              omega
            case measure => simp [intOf]; omega
    · obtain rfl : j = ps.length := by omega
      have tk : decide ((ps.length : Int) < ps.length) = false := by simp
      clear hM hsum
      go_wp2
      go_ret
      refine ⟨ret_int ?_, HM.out⟩
      rw [HN.out, HPL.out, List.take_length]
      unfold RSto.need needSum
      rw [← HI.out]
      omega

set_option maxRecDepth 100000 in
set_option maxHeartbeats 4000000 in
theorem ref_made {w : World} {r : Nat} {R : RSto} {S : List Nat} (h : RefAt w r R S) (hg : R.now.gen ≤ 1000000) :
    Calls Tryz.prog 29 #[.pointer (some ⟨r, 0, none⟩)] w (StPost Any w ((R.now.gen + 1 : Nat) : Int) R.next.ents) := by
  obtain ⟨nv, xv, pv, qs, h1, rfl⟩ := h
  obtain ⟨Ax, cx, rfl⟩ := h1.next.slice
  have HX := Lib.hid h1.next
  have HBR := Lib.hid h1.blk
  obtain ⟨o, ho⟩ : ∃ o : Obj, o = .cells #[.int .i64 0, .slice none 0 0] 46 := ⟨_, rfl⟩
  have hbn : Blk (w.alloc o) w.heap.size 46 #[.int .i64 0, .slice none 0 0] := by rw [ho]; exact Blk.new w _ _
  have HBN := Lib.hid hbn
  have c1 : (w.alloc o).cell? ⟨r, 1, none⟩ = some (.int .i64 (R.now.gen : Int)) := (h1.blk.alloc o).cell 1
  have c4 : (w.alloc o).cell? ⟨r, 4, none⟩ = some (.slice Ax R.next.ents.length cx) := (h1.blk.alloc o).cell 4
  have n0 : (w.alloc o).cell? ⟨w.heap.size, 0, none⟩ = some (.int .i64 0) := hbn.cell 0
  have n1 : (w.alloc o).cell? ⟨w.heap.size, 1, none⟩ = some (.slice none 0 0) := hbn.cell 1
  have f0 : (w.alloc o).frozen? ⟨w.heap.size, 0, none⟩ = false := hbn.frozen 0
  have f1 : (w.alloc o).frozen? ⟨w.heap.size, 1, none⟩ = false := hbn.frozen 1
  have hw : IntKind.i64.wrap ((R.now.gen : Int) + 1) = (R.now.gen : Int) + 1 := IntWalk.i64_in _ (by omega)
  have HO := Lib.hid ho
  clear h1 hbn ho
  go_enter Tryz.func29, Tryz.ntmps29
  go_wp2
  rw [← HO.out]
  go_region
  all_goals
    go_wp2
    refine bodyPost_ret (v := .agg #[.int .i64 ((R.now.gen : Int) + 1), .slice Ax R.next.ents.length cx]) (by simp [results, Tryz.results29, go_sem, n0, n1]) rfl ⟨Ax, cx, by simp, ?_, ?_⟩
    · have hb : Below w.heap.size w (w.alloc o) := (Below.refl _ w).alloc (Nat.le_refl _) o
      refine (HX.out.below hb).keepsT (F := (· = w.heap.size)) (((Keeps.set1 _ w.heap.size 0 _).trans (Keeps.set1 _ w.heap.size 1 _) (fun _ _ h => h)).drew) (fun g t cs e hb2 => ?_)
      subst e
      have := (hb2.det HBN.out).2
      subst this
      exact ⟨by decide, by decide⟩
    · exact ((((Below.refl _ w).alloc (Nat.le_refl _) o).setCell (p := ⟨w.heap.size, 0, none⟩) (Nat.le_refl _) _).setCell (p := ⟨w.heap.size, 1, none⟩) (Nat.le_refl _) _).drew_

end Go.Proofs.YtbgiklkpinflaaaGreat
