/- save. -/
import Derived.Test.YtbgiklkpinflaaaGreatWritten
namespace Go.Proofs.YtbgiklkpinflaaaGreat
open Go.RowKit Go.Shelf Go.Maps
attribute [local go_sem ↓] Go.wp_at_zero Go.wp_at_succ

section
variable {P : Nat → Prop} {w w1 w2 : World} {d : Nat} {D D0 : Dsk} {S : List Nat}
theorem After.next (h : After P w w1 d D S) : ∃ S1, DiskAt P w1 d D S1 ∧ ∀ w2 D2, After P w1 w2 d D2 S1 → After P w w2 d D2 S := by
  obtain ⟨S1, h1, h2, h3⟩ := h
  exact ⟨S1, h1, fun w2 D2 h4 => After.trans h2 h3 h4⟩
theorem After.below (h : After P w w1 d D S) (hb : Below w1.heap.size w1 w2) : After P w w2 d D S := by
  obtain ⟨S1, h1, h2, h3⟩ := h
  exact ⟨S1, h1.below hb, h2, h3.trans (Keeps.of_below (F := fun _ => False) hb) (fun _ _ h => h.elim)⟩
theorem After.of_below (h : DiskAt P w d D S) (hb : Below w.heap.size w w1) : After P w w1 d D S := (After.refl h).below hb
theorem After.at_ (h : After P w w1 d D S) : ∃ S1, DiskAt P w1 d D S1 := let ⟨S1, h1, _⟩ := h; ⟨S1, h1⟩
theorem After.state (h : After P w w1 d D S) (hD : DiskAt P w d D0 S) {a mb : Nat} {st : St} (hs : StateAt w a mb st) : StateAt w1 a mb st := by
  obtain ⟨S1, h1, h2, h3⟩ := h
  refine hs.keeps h3 (fun g t cs hg hb => ?_) (fun hm => ?_)
  · exact ⟨fun e => hD.no (t := 3) (by decide) (by decide) (by decide) hg (e ▸ hb), fun e => hD.no (t := 133) (by decide) (by decide) (by decide) hg (e ▸ hb)⟩
  · obtain ⟨t, cs, hk, _⟩ := hD.lt _ hm
    obtain ⟨_, _, _, _, hM, _⟩ := hs
    exact hM.not_blk hk
theorem After.bytes (h : After P w w1 d D S) (hD : DiskAt P w d D0 S) {Q : Nat → Prop} {v : Value} {l : List UInt8} (hB : BytesAt Q w v l) : BytesAt Q w1 v l := by
  obtain ⟨S1, h1, h2, h3⟩ := h
  exact hB.keeps h3 (fun g cs hg _ hk => hD.no (t := 5) (by decide) (by decide) (by decide) hg hk)
end

theorem handed_new {P : Nat → Prop} {w w' : World} {d : Nat} {D : Dsk} {S : List Nat} {v : Value} {l : List UInt8} (h : DiskAt P w d D S) (hB : BytesAt (w.heap.size ≤ ·) w' v l) : Handed w' S v l := by
  obtain ⟨g, cap, cur, rfl, _, hp, _, hc⟩ := hB.cells
  refine ⟨_, cap, rfl, fun _ => ⟨g, 0, rfl, hc, fun hm => ?_⟩⟩
  obtain ⟨t, cs', hb', _⟩ := h.lt _ hm
  exact Nat.lt_irrefl _ (Nat.lt_of_lt_of_le hb'.lt hp)
theorem below_drew {B : Nat} {w w' : World} (h : Below B w.drew w') : Below B w w' := ⟨h.os, h.tape, h.output, h.size, h.block⟩

def Dsk.save (D : Dsk) (st : St) : Int × Dsk :=
  if (writes (spreadList (writtenOf st.places) st.index) D).1 = 0 then
    if (writes (spreadList (writtenOf st.places) st.index) D).2.sync.1 = 0 then
      if ((writes (spreadList (writtenOf st.places) st.index) D).2.sync.2.write ((st.gen % 2 : Nat) : Int) (rootOf st.gen (st.index[0]?.getD 0) (writtenOf st.places))).1 = 0 then
        ((writes (spreadList (writtenOf st.places) st.index) D).2.sync.2.write ((st.gen % 2 : Nat) : Int) (rootOf st.gen (st.index[0]?.getD 0) (writtenOf st.places))).2.sync
      else (writes (spreadList (writtenOf st.places) st.index) D).2.sync.2.write ((st.gen % 2 : Nat) : Int) (rootOf st.gen (st.index[0]?.getD 0) (writtenOf st.places))
    else (writes (spreadList (writtenOf st.places) st.index) D).2.sync
  else writes (spreadList (writtenOf st.places) st.index) D

theorem writes_small : ∀ (l : List (Nat × List UInt8)) (D : Dsk) (k : Nat), Small D (k + l.length) → Small (writes l D).2 k
  | [], _, _, h => h
  | p :: r, D, k, h => by
    show Small (if _ then _ else _ : Int × Dsk).2 k
    have hs : Small D (k + r.length + 1) := h
    split
    · exact writes_small r _ k (Dsk.write_small hs)
    · exact (Dsk.write_small hs).mono (by omega)

set_option maxRecDepth 100000 in
set_option maxHeartbeats 4000000 in
theorem save_calls {P : Nat → Prop} {d s a mb n : Nat} {D : Dsk} {S : List Nat} {st : St} (w : World) (hD : DiskAt P w d D S) (cs : Array Value) (hs : Blk w s 100 cs) (hs0 : cs[0]? = some (.pointer (some ⟨d, 0, none⟩)))
    (hst : StateAt w a mb st) (hok : StOk n st) (hidx : st.index.length ≤ max 1 (((writtenOf st.places).length + 239) / 240)) (hsm : Small D (st.index.length + 3)) :
    Calls Tryz.prog 76 #[.pointer (some ⟨s, 0, none⟩), .pointer (some ⟨a, 0, none⟩)] w fun e w' => e = .returned (.int .i64 (D.save st).1) ∧ After P w w' d (D.save st).2 S := by
  have hwl : (writtenOf st.places).length ≤ 358400 := by
    have := writtenOf_le (n := n) (ps := st.places) (fun x hx => (hok.keys x hx).2) hok.places
    have := hok.few
    omega
  have HST := Lib.hid hst
  have HOK := Lib.hid hok
  have HIX := Lib.hid hidx
  have HD := Lib.hid hD
  have HS := Lib.hid hs
  have HS0 := Lib.hid hs0
  obtain ⟨r1, hr1⟩ : ∃ r1, r1 = writes (spreadList (writtenOf st.places) st.index) D := ⟨_, rfl⟩
  have hsm1 : Small r1.2 3 := by rw [hr1]; exact writes_small _ _ _ (by rw [spreadList_length]; exact hsm.mono (by omega))
  have HR1 := Lib.hid hr1
  clear hst hok hidx hD hs hs0 hr1
  go_enter Tryz.func76, Tryz.ntmps76
  go_wp2_with fail
  refine (written_calls w HST.out HOK.out).mono ?_
  rintro e w1 ⟨v, rfl, hv, hbel⟩
  have HV := Lib.hid hv
  have HBL := Lib.hid hbel
  have HA1 : Hid (After P w w1 d D S) := After.of_below HD.out hbel
  clear hv hbel
  have HST1 : Hid (StateAt w1 a mb st) := HA1.out.state HD.out HST.out
  obtain ⟨sv, hb1, hn1, _⟩ := HST1.out
  have c2 : w1.cell? ⟨a, 2, none⟩ = some sv := hb1.cell 2
  have HN1 := Lib.hid hn1
  clear hb1 hn1
  obtain ⟨S1, hD1, hnx1⟩ := HA1.out.next
  have HSW1 : Hid (Blk w1 s 100 cs) := HA1.out.blk HD.out HS.out (by decide) (by decide) (by decide)
  go_wp2_with fail
  refine (spread_calls w1 hD1 cs HSW1.out HS0.out (writtenOf st.places) v HV.out st.index sv HN1.out HIX.out (by omega) (fun x hx => by have := HOK.out.iblk x hx; have := HOK.out.most; omega) (hsm.mono (by omega))).mono ?_
  rw [← HR1.out]
  rintro e w2 ⟨rfl, hAf⟩
  have HA2 := Lib.hid (hnx1 _ _ hAf)
  have HV2 : Hid ((v = .slice none 0 0 ∧ writtenOf st.places = []) ∨ (0 < (writtenOf st.places).length ∧ BytesAt (w.heap.size ≤ ·) w2 v (writtenOf st.places))) := HV.out.imp id (fun h => ⟨h.1, hAf.bytes hD1 h.2⟩)
  clear hAf hnx1 c2 HN1
  by_cases hz1 : r1.1 = 0
  · have tz1 : (r1.1 != 0) = false := by simpa using hz1
    have HZ1 := Lib.hid hz1
    clear hz1
    obtain ⟨S2, hD2, hnx2⟩ := HA2.out.next
    have hs2 : w2.cell? ⟨s, 0, none⟩ = some (.pointer (some ⟨d, 0, none⟩)) := ((HA2.out.blk HD.out HS.out (by decide) (by decide) (by decide)).cell 0).trans HS0.out
    obtain ⟨r2, hr2⟩ : ∃ r2, r2 = r1.2.sync := ⟨_, rfl⟩
    have hsm2 : Small r2.2 2 := by rw [hr2]; exact Dsk.sync_small hsm1
    have HR2 := Lib.hid hr2
    clear hr2
    go_wp2_with fail
    refine (sync_any w2 hD2 hsm1.life hsm1.pen).mono ?_
    rw [← HR2.out]
    rintro e w3 ⟨rfl, hAf3⟩
    have HA3 := Lib.hid (hnx2 _ _ hAf3)
    have HV3 : Hid ((v = .slice none 0 0 ∧ writtenOf st.places = []) ∨ (0 < (writtenOf st.places).length ∧ BytesAt (w.heap.size ≤ ·) w3 v (writtenOf st.places))) := HV2.out.imp id (fun h => ⟨h.1, hAf3.bytes hD2 h.2⟩)
    clear hAf3 hnx2
    by_cases hz2 : r2.1 = 0
    · have tz2 : (r2.1 != 0) = false := by simpa using hz2
      have HZ2 := Lib.hid hz2
      clear hz2
      obtain ⟨S3, hD3, hnx3⟩ := HA3.out.next
      have HSW3 : Hid (Blk w3 s 100 cs) := HA3.out.blk HD.out HS.out (by decide) (by decide) (by decide)
      have hs3 : w3.cell? ⟨s, 0, none⟩ = some (.pointer (some ⟨d, 0, none⟩)) := (HSW3.out.cell 0).trans HS0.out
      have HST3 : Hid (StateAt w3 a mb st) := HA3.out.state HD.out HST.out
      obtain ⟨sv3, hb3, hn3, _⟩ := HST3.out
      have c0 : w3.cell? ⟨a, 0, none⟩ = some (.int .i64 (st.gen : Int)) := hb3.cell 0
      have hgen : (st.gen : Int) ≤ 4611686018427387904 := by have := HOK.out.gen; omega
      have HB3 := Lib.hid hb3
      have HN3 := Lib.hid hn3
      have HVR : Hid (∃ A c, v = .slice A (writtenOf st.places).length c ∧ (0 < (writtenOf st.places).length → ∃ g o, A = some ⟨g, o, none⟩ ∧ Cells w3.drew g o ((writtenOf st.places).map bv))) := by
        rcases HV3.out with ⟨rfl, h⟩ | ⟨_, h⟩
        · exact ⟨none, 0, by rw [h]; rfl, fun hl => by rw [h] at hl; exact absurd hl (Nat.lt_irrefl _)⟩
        · obtain ⟨g, cap, cur, rfl, _, _, _, hc⟩ := h.cells
          exact ⟨_, cap, rfl, fun _ => ⟨g, 0, rfl, hc⟩⟩
      have hi1 : st.index[0]'HOK.out.index ≤ 65535 := by have := HOK.out.iblk _ (List.getElem_mem HOK.out.index); have := HOK.out.most; omega
      have HI1 := Lib.hid hi1
      clear hb3 hn3 hi1
      obtain ⟨r3, hr3⟩ : ∃ r3, r3 = r2.2.write ((st.gen % 2 : Nat) : Int) (rootOf st.gen (st.index[0]'HOK.out.index) (writtenOf st.places)) := ⟨_, rfl⟩
      have hsm3 : Small r3.2 1 := by rw [hr3]; exact Dsk.write_small hsm2
      have HR3 := Lib.hid hr3
      clear hr3
      have emod : (st.gen : Int).tmod 2 = ((st.gen % 2 : Nat) : Int) := by rw [Int.tmod_eq_emod_of_nonneg (by omega)]; omega
      have HEM := Lib.hid emod
      clear emod
      have hlife2 := hsm2.life
      have hpen2 := hsm2.pen
      go_wp2
      go_region_law
        (first
          | (go_simp; go_at_call 120; refine (root_calls (gen := st.gen) (mv := .map (some mb)) (iv := sv3) w3.drew ?_ ?_ HOK.out.index HOK.out.gen HI1.out (writtenOf st.places) v HVR.out (by omega)).mono ?_; exact HB3.out; exact HN3.out; rintro e w4 ⟨g4, rfl, hB4, hbel4⟩; have hs4 : w4.cell? ⟨s, 0, none⟩ = some (.pointer (some ⟨d, 0, none⟩)) := ((HSW3.out.belowH hbel4 rfl HSW3.out.lt).cell 0).trans HS0.out; have c04 : w4.cell? ⟨a, 0, none⟩ = some (.int .i64 (st.gen : Int)) := (HB3.out.belowH hbel4 rfl HB3.out.lt).cell 0)
          | (go_simp; go_at_call 74; rw [HEM.out]; refine (write_any w4 (hD3.below (below_drew hbel4)) hlife2 hpen2 _ _ _ (handed_new hD3 hB4)).mono ?_; rw [← HR3.out]; rintro e w5 ⟨rfl, hAf5⟩))
      all_goals
        have hAf3 : After P w3 w5 d r3.2 S3 := After.trans (fun _ h => .inl h) (Keeps.of_below (F := (· ∈ S3)) (below_drew hbel4)) hAf5
        have HA5 := Lib.hid (hnx3 _ _ hAf3)
        have hi0 : st.index[0]?.getD 0 = st.index[0]'HOK.out.index := by rw [List.getElem?_eq_getElem HOK.out.index, Option.getD_some]
        have HI0 := Lib.hid hi0
        clear hAf3 hAf5 hi0
        by_cases hz3 : r3.1 = 0
        · have tz3 : (r3.1 != 0) = false := by simpa using hz3
          have HZ3 := Lib.hid hz3
          clear hz3
          obtain ⟨S5, hD5, hnx5⟩ := HA5.out.next
          have hs5 : w5.cell? ⟨s, 0, none⟩ = some (.pointer (some ⟨d, 0, none⟩)) := ((HA5.out.blk HD.out HS.out (by decide) (by decide) (by decide)).cell 0).trans HS0.out
          go_wp2_with fail
          refine (sync_any w5 hD5 hsm3.life hsm3.pen).mono ?_
          rintro e w6 ⟨rfl, hAf6⟩
          go_wp2
          go_ret
          have e1 : D.save st = r3.2.sync := by unfold Dsk.save; rw [← HR1.out, if_pos HZ1.out, ← HR2.out, if_pos HZ2.out, HI0.out, ← HR3.out, if_pos HZ3.out]
          rw [e1]
          exact ⟨rfl, hnx5 _ _ hAf6⟩
        · have tz3 : (r3.1 != 0) = true := by simpa using hz3
          have HZ3 := Lib.hid hz3
          clear hz3
          go_wp2
          go_ret
          have e1 : D.save st = r3 := by unfold Dsk.save; rw [← HR1.out, if_pos HZ1.out, ← HR2.out, if_pos HZ2.out, HI0.out, ← HR3.out, if_neg HZ3.out]
          rw [e1]
          exact ⟨rfl, HA5.out⟩
    · have tz2 : (r2.1 != 0) = true := by simpa using hz2
      have HZ2 := Lib.hid hz2
      clear hz2
      go_wp2
      go_ret
      have e1 : D.save st = r2 := by unfold Dsk.save; rw [← HR1.out, if_pos HZ1.out, ← HR2.out, if_neg HZ2.out]
      rw [e1]
      exact ⟨rfl, HA3.out⟩
  · have tz1 : (r1.1 != 0) = true := by simpa using hz1
    have HZ1 := Lib.hid hz1
    clear hz1
    go_wp2
    go_ret
    have e1 : D.save st = r1 := by unfold Dsk.save; rw [← HR1.out, if_neg HZ1.out]
    rw [e1]
    exact ⟨rfl, HA2.out⟩

end Go.Proofs.YtbgiklkpinflaaaGreat
