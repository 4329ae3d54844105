/- Put. Put, where it is refused. -/
import Derived.Test.YtbgiklkpinflaaaGreatLenA

namespace Go.Proofs.YtbgiklkpinflaaaGreat
open Go.RowKit Go.Shelf Go.Maps
attribute [local go_sem ↓] Go.wp_at_zero Go.wp_at_succ

theorem upd_run {w : World} {b : Nat} {M : List (List UInt8 × Value)} (hM : MapAt w b M) (hn : M.length < 100000) (s : ByteArray) (hs : s.size ≤ maxLen) (v : Value) :
    ∃ w', (Instr.mapUpdate 97 (.map (some b)) (.string s) v).run Tryz.prog w = .ok () w' ∧ MapAt w' b (mput M s.data.toList v) ∧ w.grownBy w' (some b) := by
  obtain ⟨w', hrun, r1, r2⟩ := World.ownsMap.update (H := Value) hM Tryz.lawStr Tryz.underlying97 (by unfold maxLen; omega) (key_of s hs) (R := rv) (val := v) (d := .held v) (ps := []) rfl
  rw [mapD_put] at r1
  exact ⟨w', hrun, MapAt.fit r1, r2⟩
theorem key_ne {key : ByteArray} (h : 0 < key.size) : ¬ key.toList = [] ∧ key.toList.isEmpty = false := by
  have h1 : key.data.toList.length = key.size := by rw [Array.length_toList]; rfl
  rw [ByteArray.toList_eq]
  cases hk : key.data.toList with
  | nil => rw [hk] at h1; simp at h1; omega
  | cons a r => exact ⟨by simp, rfl⟩
/-- The store's parts in a later world. -/
theorem parts_below {w w1 : World} {s d life a mb nb gb : Nat} {pv : Value} {st : St} {Mn : List (List UInt8 × Value)} {gs : List (List UInt8 × Unit)} {op : Bool} {nv gv : Value} (hb : Below w.heap.size w w1) (hs : StoBlk w s d life a pv op nv gv) (hst : StateAt w a mb st) (hN : MapAt w nb Mn) (hG : GoneAt w gb gs) :
    StoBlk w1 s d life a pv op nv gv ∧ StateAt w1 a mb st ∧ MapAt w1 nb Mn ∧ GoneAt w1 gb gs :=
  ⟨Blk.below hs hb (Blk.lt hs), hst.below hb, hN.below hb, MapAt.below hG hb⟩

theorem put_end {w w4 w5 w6 : World} {nb gb : Nat} {Mn Mn' : List (List UInt8 × Value)} {gs : List (List UInt8 × Unit)} {k : List UInt8} {nv : Value} {l : List UInt8} (hng : nb ≠ gb) (hN4 : MapAt w4 nb Mn) (hK4 : Keeps (· = gb) w w4) (hG4 : MapAt w4 gb (mdel (mmap (fun _ => Value.bool true) gs) k))
    (hb5 : Below w4.drew.heap.size w4.drew w5) (hB5 : BytesAt (w4.drew.heap.size ≤ ·) w5 nv l) (hN6 : MapAt w6 nb Mn') (hg6 : w5.grownBy w6 (some nb)) :
    BytesAt (w.heap.size ≤ ·) w6 nv l ∧ MapAt w6 nb Mn' ∧ GoneAt w6 gb (mdel gs k) ∧ Keeps (fun k => k = nb ∨ k = gb) w w6 := by
  have hb5' : Below w4.heap.size w4 w5 := below_drew hb5
  have k6 : Keeps (· = nb) w5 w6 := Keeps.of_grown hg6 (fun g h => by cases h; rfl)
  have hN5 := hN4.below hb5'
  refine ⟨(hB5.keeps k6 (fun g cs hg _ hk => hN5.not_blk (hg ▸ hk))).mono (fun g hg => Nat.le_trans hK4.size hg), hN6, ?_, ?_⟩
  · have h := (hG4.below hb5').keeps k6 (fun e => hng e.symm)
    rw [← mmap_mdel] at h
    exact h
  · exact ((hK4.weaken (F := fun k => k = nb ∨ k = gb) (fun _ _ h => .inr h)).trans (Keeps.of_below (F := fun _ => False) hb5') (fun _ _ h => h.elim)).trans k6 (fun _ _ h => .inl h)

set_option maxRecDepth 100000 in
set_option maxHeartbeats 4000000 in
theorem put_yes {P Q : Nat → Prop} {w : World} {s d life a mb nb gb n : Nat} {pv : Value} {D : Dsk} {S : List Nat} {st : St} {Mn : List (List UInt8 × Value)} {gs : List (List UInt8 × Unit)} (hs : StoBlk w s d life a pv true (.map (some nb)) (.map (some gb))) (hD : DiskAt P w d D S) (hst : StateAt w a mb st) (hok : StOk n st) (hN : MapAt w nb Mn) (hG : GoneAt w gb gs) (hng : nb ≠ gb) (hsrt : Srt Mn) (hln : Mn.length ≤ 1000) (hlg : gs.length ≤ 1000) (hkn : ∀ x ∈ Mn, ∃ A n c, x.2 = .slice A n c)
    (hdd : isDead life D = false) (key : ByteArray) (hk0 : 0 < key.size) (hk1 : key.size ≤ 64) (v : Value) (l : List UInt8) (hv : BytesAt Q w v l) (hl : l.length ≤ 65536)
    (hroom : ((mget Mn key.data.toList).isSome || ((mget st.places key.data.toList).isSome && !(mget gs key.data.toList).isSome)) = true ∨ (st.places.length : Int) - gs.length + newKeys st.places Mn < 512) :
    Calls Tryz.prog 49 #[.pointer (some ⟨s, 0, none⟩), .string key, v] w fun e w' => e = .returned (.int .i64 0) ∧ ∃ nv, BytesAt (w.heap.size ≤ ·) w' nv l ∧ MapAt w' nb (mput Mn key.data.toList nv) ∧ GoneAt w' gb (mdel gs key.data.toList) ∧ Keeps (fun k => k = nb ∨ k = gb) w w' := by
  obtain ⟨g, cap, cur, rfl, hc1, hq, hbk, hcl⟩ := hv.cells
  have hrc : readyCode life D true = 0 := by unfold readyCode; rw [hdd]; rfl
  have HR := Lib.hid (ready_calls hs hD)
  rw [hrc] at HR
  have HS := Lib.hid hs
  have HST := Lib.hid hst
  have HOK := Lib.hid hok
  have HN := Lib.hid hN
  have HG := Lib.hid hG
  have HNG := Lib.hid hng
  have HSR := Lib.hid hsrt
  have HKN := Lib.hid hkn
  have HV := Lib.hid hv
  have HBK := Lib.hid hbk
  have HCL := Lib.hid hcl
  have HRM := Lib.hid hroom
  clear hrc hs hst hok hN hG hng hsrt hkn hv hbk hcl hroom hD hdd
  have hks : key.size ≤ maxLen := by unfold maxLen; omega
  obtain ⟨hke1, hke2⟩ := key_ne hk0
  go_enter Tryz.func49, Tryz.ntmps49
  go_wp2_with (go_at_call 70; refine HR.out.mono ?_; rintro e w1 ⟨rfl, nq, hw1⟩; have HB1 : Hid (Below w.heap.size w w1) := (by show Below w.heap.size w w1; rw [hw1]; exact (Below.refl _ w).drewN_ nq); clear hw1 nq)
  obtain ⟨hs1, hst1, hN1, hG1⟩ := parts_below HB1.out HS.out HST.out HN.out HG.out
  have HC := Lib.hid (has_calls hs1 hst1 hN1 hG1 HKN.out key hks)
  clear hs1 hst1 hN1 hG1
  cases hh : ((mget Mn key.data.toList).isSome || ((mget st.places key.data.toList).isSome && !(mget gs key.data.toList).isSome))
  · rw [hh] at HC
    have hq := HRM.out
    rw [hh] at hq
    have hlt : (st.places.length : Int) - gs.length + newKeys st.places Mn < 512 := by
      rcases hq with h | h
      · cases h
      · exact h
    have HH := Lib.hid hh
    clear hh hq
    obtain ⟨nk, hnk⟩ : ∃ nk : Int, nk = (st.places.length : Int) - gs.length + newKeys st.places Mn := ⟨_, rfl⟩
    rw [← hnk] at hlt
    have HNK := Lib.hid hnk
    clear hnk
    go_wp2_with (first
      | (refine HC.out.mono ?_; rintro e w2 ⟨rfl, hb2⟩; have HB2 : Hid (Below w.heap.size w w2) := HB1.out.trans (hb2.mono HB1.out.size); clear hb2)
      | (go_at_call 102; refine (keys_calls (parts_below HB2.out HS.out HST.out HN.out HG.out).1 (parts_below HB2.out HS.out HST.out HN.out HG.out).2.1 HOK.out (parts_below HB2.out HS.out HST.out HN.out HG.out).2.2.1 (parts_below HB2.out HS.out HST.out HN.out HG.out).2.2.2 HSR.out ?_ ?_).mono ?_; omega; omega; rw [← HNK.out]; rintro e w3 ⟨rfl, hb3⟩; have HB3 : Hid (Below w.heap.size w w3) := HB2.out.trans (hb3.mono HB2.out.size); clear hb3; have c36 : w3.cell? ⟨s, 6, none⟩ = some (.map (some gb)) := (parts_below HB3.out HS.out HST.out HN.out HG.out).1.cell 6; have HG3 := Lib.hid (parts_below HB3.out HS.out HST.out HN.out HG.out).2.2.2)
      | (at_delete; refine wpList_del _ rfl _ _ _ rfl 4 Tryz.underlying98 gb _ rfl HG3.out key rfl hks ?_; intro w4 hG4 hg4; have HG4 := Lib.hid hG4; have HGR := Lib.hid hg4; clear hG4 hg4; have c45 : w4.cell? ⟨s, 5, none⟩ = some (.map (some nb)) := ((Blk.grown (parts_below HB3.out HS.out HST.out HN.out HG.out).1 HGR.out (by intro h; cases h; exact (MapAt.not_blk (parts_below HB3.out HS.out HST.out HN.out HG.out).2.2.2 (parts_below HB3.out HS.out HST.out HN.out HG.out).1))).cell 5)))
    have HK4 : Hid (Keeps (· = gb) w w4) := ((Keeps.of_below (F := (· = gb)) HB3.out).grown HGR.out (fun g h _ => by cases h; rfl))
    have HV4 : Hid (BytesAt Q w4 (.slice (some ⟨g, 0, none⟩) l.length cap) l) := HV.out.keeps HK4.out (fun g cs hg _ hk => by subst hg; exact MapAt.not_blk HG.out hk)
    have HN4 : Hid (MapAt w4 nb Mn) := HN.out.keeps HK4.out (fun e => HNG.out e)
    have HS4 : Hid (StoBlk w4 s d life a pv true (.map (some nb)) (.map (some gb))) := Blk.keeps HS.out HK4.out (fun e => MapAt.not_blk HG.out (e ▸ HS.out))
    have HC4 : Hid (Cells w4.drew g 0 (l.map bv)) := by
      obtain ⟨g', cap', cur', e1, _, _, _, h⟩ := (HV4.out.keeps ((Keeps.refl (fun _ => False) w4).drew) (fun _ _ h => h.elim)).cells
      cases e1
      exact h
    have hl2 : l.length ≤ 70368744177664 := by omega
    go_region_law
      (first
        | (go_simp; go_at_call 86; refine (clone_bytes g 0 _ cap l _ rfl hl2 HC4.out).mono ?_; rintro e w5 ⟨g5, cap5, rfl, hB5, hb5⟩; have c55 : w5.cell? ⟨s, 5, none⟩ = some (.map (some nb)) := ((Blk.below (Blk.drew HS4.out) hb5 (Blk.lt HS4.out)).cell 5); obtain ⟨w6, hrun6, hN6, hg6⟩ := upd_run (MapAt.below (w := w4.drew) HN4.out hb5) (by omega) key hks (.slice (some ⟨g5, 0, none⟩) l.length cap5)))
    all_goals
      go_wp2
      go_ret
      exact ⟨rfl, _, put_end HNG.out HN4.out HK4.out HG4.out hb5 hB5 hN6 hg6⟩
  · rw [hh] at HC
    have HH := Lib.hid hh
    clear hh
    go_wp2_with (first
      | (refine HC.out.mono ?_; rintro e w3 ⟨rfl, hb3⟩; have HB3 : Hid (Below w.heap.size w w3) := HB1.out.trans (hb3.mono HB1.out.size); clear hb3; have c36 : w3.cell? ⟨s, 6, none⟩ = some (.map (some gb)) := (parts_below HB3.out HS.out HST.out HN.out HG.out).1.cell 6; have HG3 := Lib.hid (parts_below HB3.out HS.out HST.out HN.out HG.out).2.2.2)
      | (at_delete; refine wpList_del _ rfl _ _ _ rfl 4 Tryz.underlying98 gb _ rfl HG3.out key rfl hks ?_; intro w4 hG4 hg4; have HG4 := Lib.hid hG4; have HGR := Lib.hid hg4; clear hG4 hg4; have c45 : w4.cell? ⟨s, 5, none⟩ = some (.map (some nb)) := ((Blk.grown (parts_below HB3.out HS.out HST.out HN.out HG.out).1 HGR.out (by intro h; cases h; exact (MapAt.not_blk (parts_below HB3.out HS.out HST.out HN.out HG.out).2.2.2 (parts_below HB3.out HS.out HST.out HN.out HG.out).1))).cell 5)))
    have HK4 : Hid (Keeps (· = gb) w w4) := ((Keeps.of_below (F := (· = gb)) HB3.out).grown HGR.out (fun g h _ => by cases h; rfl))
    have HV4 : Hid (BytesAt Q w4 (.slice (some ⟨g, 0, none⟩) l.length cap) l) := HV.out.keeps HK4.out (fun g cs hg _ hk => by subst hg; exact MapAt.not_blk HG.out hk)
    have HN4 : Hid (MapAt w4 nb Mn) := HN.out.keeps HK4.out (fun e => HNG.out e)
    have HS4 : Hid (StoBlk w4 s d life a pv true (.map (some nb)) (.map (some gb))) := Blk.keeps HS.out HK4.out (fun e => MapAt.not_blk HG.out (e ▸ HS.out))
    have HC4 : Hid (Cells w4.drew g 0 (l.map bv)) := by
      obtain ⟨g', cap', cur', e1, _, _, _, h⟩ := (HV4.out.keeps ((Keeps.refl (fun _ => False) w4).drew) (fun _ _ h => h.elim)).cells
      cases e1
      exact h
    have hl2 : l.length ≤ 70368744177664 := by omega
    go_region_law
      (first
        | (go_simp; go_at_call 86; refine (clone_bytes g 0 _ cap l _ rfl hl2 HC4.out).mono ?_; rintro e w5 ⟨g5, cap5, rfl, hB5, hb5⟩; have c55 : w5.cell? ⟨s, 5, none⟩ = some (.map (some nb)) := ((Blk.below (Blk.drew HS4.out) hb5 (Blk.lt HS4.out)).cell 5); obtain ⟨w6, hrun6, hN6, hg6⟩ := upd_run (MapAt.below (w := w4.drew) HN4.out hb5) (by omega) key hks (.slice (some ⟨g5, 0, none⟩) l.length cap5)))
    all_goals
      go_wp2
      go_ret
      exact ⟨rfl, _, put_end HNG.out HN4.out HK4.out HG4.out hb5 hB5 hN6 hg6⟩

end Go.Proofs.YtbgiklkpinflaaaGreat

namespace Go.Proofs.YtbgiklkpinflaaaGreat
open Go.RowKit Go.Shelf Go.Maps

set_option maxRecDepth 100000 in
set_option maxHeartbeats 2000000 in
theorem put_closed {P : Nat → Prop} {w : World} {s d life a : Nat} {pv nv gv : Value} {op : Bool} {D : Dsk} {S : List Nat} (hs : StoBlk w s d life a pv op nv gv) (hD : DiskAt P w d D S) (hno : readyCode life D op ≠ 0) (key : ByteArray) (v : Value) :
    Calls Tryz.prog 49 #[.pointer (some ⟨s, 0, none⟩), .string key, v] w fun e w' => e = .returned (.int .i64 (readyCode life D op)) ∧ ∃ n, w' = w.drewN n := by
  have HR := Lib.hid (ready_calls hs hD)
  obtain ⟨c, hc⟩ : ∃ c, c = readyCode life D op := ⟨_, rfl⟩
  rw [← hc] at HR hno ⊢
  have tz : (c != 0) = true := by simpa using hno
  clear hs hc hno
  go_enter Tryz.func49, Tryz.ntmps49
  go_wp2_with (go_at_call 70; refine HR.out.mono ?_; rintro e w1 ⟨rfl, nq, rfl⟩)
  go_ret
  exact ⟨rfl, _, rfl⟩

set_option maxRecDepth 100000 in
set_option maxHeartbeats 2000000 in
theorem put_badkey {P : Nat → Prop} {w : World} {s d life a : Nat} {pv nv gv : Value} {D : Dsk} {S : List Nat} (hs : StoBlk w s d life a pv true nv gv) (hD : DiskAt P w d D S) (hdd : isDead life D = false) (key : ByteArray) (v : Value) (hk : key.size = 0 ∨ 64 < key.size) :
    Calls Tryz.prog 49 #[.pointer (some ⟨s, 0, none⟩), .string key, v] w fun e w' => e = .returned (.int .i64 55) ∧ ∃ n, w' = w.drewN n := by
  have hrc : readyCode life D true = 0 := by unfold readyCode; rw [hdd]; rfl
  have HR := Lib.hid (ready_calls hs hD)
  rw [hrc] at HR
  clear hrc hs hdd
  rcases Nat.eq_zero_or_pos key.size with h0 | h0
  · have h1 : key.toList = [] := by
      rw [ByteArray.toList_eq]
      exact List.eq_nil_of_length_eq_zero (by rw [Array.length_toList]; exact h0)
    have h2 : key.toList.isEmpty = true := by rw [h1]; rfl
    have H1 := Lib.hid h1
    clear h1 h0 hk
    go_enter Tryz.func49, Tryz.ntmps49
    go_wp2_with (go_at_call 70; refine HR.out.mono ?_; rintro e w1 ⟨rfl, nq, rfl⟩)
    all_goals
      first
        | (go_ret; exact ⟨rfl, _, rfl⟩)
        | (exact absurd H1.out (by assumption))
  · obtain ⟨hke1, hke2⟩ := key_ne h0
    have h64 : 64 < key.size := by omega
    clear hk
    go_enter Tryz.func49, Tryz.ntmps49
    go_wp2_with (go_at_call 70; refine HR.out.mono ?_; rintro e w1 ⟨rfl, nq, rfl⟩)
    go_ret
    exact ⟨rfl, _, rfl⟩

set_option maxRecDepth 100000 in
set_option maxHeartbeats 2000000 in
theorem put_big {P : Nat → Prop} {w : World} {s d life a : Nat} {pv nv gv : Value} {D : Dsk} {S : List Nat} (hs : StoBlk w s d life a pv true nv gv) (hD : DiskAt P w d D S) (hdd : isDead life D = false) (key : ByteArray) (hk0 : 0 < key.size) (hk1 : key.size ≤ 64) (A : Option Addr) (n c : Nat) (hn : 65536 < n) (hn2 : n ≤ 1000000000) :
    Calls Tryz.prog 49 #[.pointer (some ⟨s, 0, none⟩), .string key, .slice A n c] w fun e w' => e = .returned (.int .i64 4) ∧ ∃ n, w' = w.drewN n := by
  have hrc : readyCode life D true = 0 := by unfold readyCode; rw [hdd]; rfl
  have HR := Lib.hid (ready_calls hs hD)
  rw [hrc] at HR
  clear hrc hs hdd
  obtain ⟨hke1, hke2⟩ := key_ne hk0
  go_enter Tryz.func49, Tryz.ntmps49
  go_wp2_with (go_at_call 70; refine HR.out.mono ?_; rintro e w1 ⟨rfl, nq, rfl⟩)
  go_ret
  exact ⟨rfl, _, rfl⟩

end Go.Proofs.YtbgiklkpinflaaaGreat
