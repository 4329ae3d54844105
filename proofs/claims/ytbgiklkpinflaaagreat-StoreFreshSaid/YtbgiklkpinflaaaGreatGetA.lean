/- fetch, Get. Get; Get of a snapshot; Snapshot. -/
import Derived.Test.YtbgiklkpinflaaaGreatFreeA

namespace Go.Proofs.YtbgiklkpinflaaaGreat
open Go.RowKit Go.Shelf Go.Maps
attribute [local go_sem ↓] Go.wp_at_zero Go.wp_at_succ

theorem Dsk.see_length {D : Dsk} (h : DskOk D) {i : Nat} (hi : i < D.blocks.length) : (D.see i).length = 256 := by
  unfold Dsk.see
  cases hf : D.pending.reverse.find? (fun p => p.1 == i) with
  | none =>
    simp only [Option.map_none, Option.getD_none]
    rw [List.getElem?_eq_getElem hi, Option.getD_some]
    exact h.blk _ (List.getElem_mem hi)
  | some p =>
    simp only [Option.map_some, Option.getD_some]
    exact (h.pen p (List.mem_reverse.1 (List.mem_of_find?_eq_some hf))).2

/-- The bytes of a place's blocks. -/
def readAll (D : Dsk) (bs : List Nat) : List UInt8 := bs.flatMap fun b => (D.see b).take 240
def fetchOf (D : Dsk) (p : Place) : List UInt8 := (readAll D p.blocks).take p.size
def Dsk.fetch (D : Dsk) (ps : List (List UInt8 × Place)) (k : List UInt8) : Int × List UInt8 :=
  match mget ps k with
  | none => (55, [])
  | some p => if crc (fetchOf D p) = p.sum then (0, fetchOf D p) else (53, [])
theorem readAll_take (D : Dsk) (bs : List Nat) {k : Nat} (h : k < bs.length) : readAll D (bs.take (k + 1)) = readAll D (bs.take k) ++ (D.see bs[k]).take 240 := by
  unfold readAll
  rw [List.take_succ_eq_append_getElem h, List.flatMap_append, List.flatMap_singleton]
theorem readAll_length {D : Dsk} (h : DskOk D) : ∀ {bs : List Nat}, (∀ b ∈ bs, b < D.blocks.length) → (readAll D bs).length = 240 * bs.length
  | [], _ => rfl
  | b :: r, hb => by
    have e : readAll D (b :: r) = (D.see b).take 240 ++ readAll D r := rfl
    rw [e, List.length_append, List.length_take, D.see_length h (hb b (by simp)), readAll_length h (fun x hx => hb x (by simp [hx])), List.length_cons]
    omega

def Fetching (w1 : World) (D : Dsk) (bs : List Nat) (k : Nat) (v : Value) (wr : World) : Prop :=
  wr.ownsRow w1.heap.size 5 1 v (readAll D (bs.take k)).length ((readAll D (bs.take k)).map bv) ∧ Below w1.heap.size w1 wr

def FetchPost (w : World) (r : Int × List UInt8) (e : Ending) (w' : World) : Prop :=
  ∃ v, e = .returned (.tuple #[v, .int .i64 r.1]) ∧ Got w.heap.size w' v r.2 ∧ Below w.heap.size w w'

theorem got_cells {B : Nat} {w : World} {v : Value} {l : List UInt8} (h : Got B w v l) (hl : l.length = 256) : ∃ g c, v = .slice (some ⟨g, 0, none⟩) 256 c ∧ 256 ≤ c ∧ Cells w g 0 (l.map bv) := by
  rcases h with ⟨_, h⟩ | h
  · rw [h] at hl
    cases hl
  · obtain ⟨g, cap, cur, hv, hle, _, _, hc⟩ := h.cells
    rw [hl] at hv hle
    exact ⟨g, cap, hv, hle, hc⟩

theorem fetching_step {w1 wr w2 w8 : World} {D : Dsk} {bs : List Nat} {k b : Nat} {v v' : Value} (hk : k < bs.length) (hb : b = bs[k]) (hl : (D.see b).length = 256) (hB : Below w1.heap.size w1 wr) (hB2 : Below wr.heap.size wr w2)
    (hown : w2.ownsRow w1.heap.size 5 1 v (readAll D (bs.take k)).length ((readAll D (bs.take k)).map bv)) (hown8 : w8.ownsRow w1.heap.size 5 1 v' ((readAll D (bs.take k)).length + 240) ((readAll D (bs.take k)).map bv ++ ((D.see b).take 240).map bv)) (hg : w2.grownBy w8 v.ownBlock) : Fetching w1 D bs (k + 1) v' w8 := by
  have hB12 : Below w1.heap.size w1 w2 := hB.trans (hB2.mono hB.size)
  refine ⟨?_, hB12.grown hg hB12.size (own_ge hown)⟩
  rw [readAll_take D bs hk, ← hb, List.length_append, List.length_take, hl, List.map_append]
  exact hown8

set_option maxRecDepth 100000 in
set_option maxHeartbeats 8000000 in
theorem fetch_calls {P : Nat → Prop} {w : World} {s d life a mb : Nat} {a' : Nat} {pv nv gv : Value} {op : Bool} {D : Dsk} {S : List Nat} {st : St} (hs : StoBlk w s d life a' pv op nv gv) (hD : DiskAt P w d D S) (hst : StateAt w a mb st)
    (hok : StOk D.blocks.length st) (hdn : D.down = false) (hpen : D.pending.length ≤ 1000000000) (key : ByteArray) (hk : key.size ≤ maxLen) :
    Calls Tryz.prog 103 #[.pointer (some ⟨s, 0, none⟩), .pointer (some ⟨a, 0, none⟩), .string key] w (FetchPost w (D.fetch st.places key.data.toList)) := by
  obtain ⟨sv, hb, hxx, l, hM, hps, hpl⟩ := hst
  clear hxx
  have d1 : w.cell? ⟨a, 1, none⟩ = some (.map (some mb)) := hb.cell 1
  obtain ⟨iu, hiu, hz0, hz1, hz2⟩ := info_parts Tryz.infoU8
  obtain ⟨p1, hp1⟩ : ∃ p1, mget l key.data.toList = p1 := ⟨_, rfl⟩
  have HM := Lib.hid hM
  have HS := Lib.hid hs
  have HD := Lib.hid hD
  have HOK := Lib.hid hok
  have HDN := Lib.hid hdn
  cases p1 with
  | none =>
    have e1 : D.fetch st.places key.data.toList = (55, []) := by
      unfold Dsk.fetch
      rw [hps, mget_mmap, hp1]
      rfl
    rw [e1]
    have HP1 : Hid (mget (mmap (fun x : Value × Place => x.1) l) key.data.toList = none) := by
      show mget _ _ = _
      rw [mget_mmap, hp1]
      rfl
    clear hM hs hD hok hdn hb hps hpl hp1 e1
    go_enter Tryz.func103, Tryz.ntmps103
    go_wp2_with (at_lookup; refine wpList_get_ok_none _ rfl _ _ _ rfl 130 Tryz.underlying131 (Tryz.zeroValue130 _) mb _ rfl HM.out key rfl hk HP1.out ?_)
    go_ret2
    exact ⟨_, rfl, .inl ⟨rfl, rfl⟩, (Below.refl _ w).alloc (Nat.le_refl _) _⟩
  | some q =>
    obtain ⟨pv', p⟩ := q
    have hm := mget_mem hp1
    obtain ⟨sv5, hv5, hnu⟩ := hpl _ hm
    have hmp : (key.data.toList, p) ∈ st.places := by rw [hps]; exact List.mem_map.2 ⟨_, hm, rfl⟩
    have hgp : mget st.places key.data.toList = some p := by rw [hps, mget_mmap, hp1]; rfl
    have e1 : D.fetch st.places key.data.toList = if crc (fetchOf D p) = p.sum then (0, fetchOf D p) else (53, []) := by
      unfold Dsk.fetch
      rw [hgp]
    obtain ⟨R, hR⟩ : ∃ R, R = D.fetch st.places key.data.toList := ⟨_, rfl⟩
    rw [← hR] at e1 ⊢
    have HR := Lib.hid e1
    clear hR
    have hpok := hok.places _ hmp
    have hnu' := hnu
    obtain ⟨A5, c5, hA, hxx⟩ := hnu'
    clear hxx
    simp only at hv5 hnu hA
    subst hA
    have HP1 : Hid (mget (mmap (fun x : Value × Place => x.1) l) key.data.toList = some (.agg #[.int .i64 (p.size : Int), .int .u32 p.sum, .slice A5 p.blocks.length c5])) := by
      show mget _ _ = _
      rw [mget_mmap, hp1, ← hv5]
      rfl
    have hnb : p.blocks.length ≤ 274 := by
      have h1 := hpok.len
      have h2 := hpok.size
      simp only at h1 h2
      omega
    have hsz : p.size ≤ 240 * p.blocks.length := by
      have h1 := hpok.len
      simp only at h1
      omega
    have hsz0 : p.size ≤ 65536 := hpok.size
    obtain ⟨nb, hnbe⟩ : ∃ nb, p.blocks.length = nb := ⟨_, rfl⟩
    obtain ⟨sz, hsze⟩ : ∃ sz, p.size = sz := ⟨_, rfl⟩
    rw [hnbe] at hnb hnu HP1 hsz
    rw [hsze] at HP1 hsz hsz0
    have HSZ := Lib.hid hsze
    clear hsze
    have HNB := Lib.hid hnbe
    have HNU := Lib.hid hnu
    have HPOK := Lib.hid hpok
    clear hM hs hD hok hdn hb hps hpl hp1 e1 hm hmp hgp hpok hnbe hnu hv5
    go_enter Tryz.func103, Tryz.ntmps103
    go_wp2_with (at_lookup; refine wpList_get_ok_some _ rfl _ _ _ rfl 130 Tryz.underlying131 (Tryz.zeroValue130 _) mb _ rfl HM.out key rfl hk _ HP1.out ?_)
    obtain ⟨w1, hw1⟩ : ∃ w1, w1 = w.alloc (.cells #[.int .i64 (sz : Int), .int .u32 p.sum, .slice A5 nb c5] 130) := ⟨_, rfl⟩
    have HB1 : Hid (Below w.heap.size w w1) := by
      show Below _ _ _
      rw [hw1]
      exact (Below.refl _ w).alloc (Nat.le_refl _) _
    have HX1 : Hid (Blk w1 w.heap.size 130 #[.int .i64 (sz : Int), .int .u32 p.sum, .slice A5 nb c5]) := by
      show Blk _ _ _ _
      rw [hw1]
      exact Blk.new w _ _
    have hsz1 : w.heap.size < w1.heap.size := HX1.out.lt
    rw [← hw1]
    clear hw1
    go_loopw [10, 29] (fun v i wr => ∃ k : Nat, k ≤ nb ∧ i = .int .i64 k ∧ Fetching w1 D p.blocks k v wr) (fun _ i _ => nb - (intOf i).toNat)
    case atStart => exact ⟨0, Nat.zero_le _, rfl, World.ownsRow_nil w1 _ _ _, Below.refl _ _⟩
    case round =>
      obtain ⟨k, hk2, rfl, hF⟩ := hrel
      by_cases hlt : k < nb
      · obtain ⟨hown, hB⟩ := hF
        have hlt2 : k < p.blocks.length := by rw [HNB.out]; exact hlt
        obtain ⟨b, hb⟩ : ∃ b, b = p.blocks[k] := ⟨_, rfl⟩
        have hbb : 2 ≤ b ∧ b < D.blocks.length := by rw [hb]; exact HPOK.out.blk _ (List.getElem_mem hlt2)
        obtain ⟨gi, rfl, hci⟩ := NumsAt.cell (l := p.blocks) (by have := HNU.out; rw [← HNB.out] at this; exact this) (by omega)
        have HBw : Hid (Below w.heap.size w wr) := HB1.out.trans (hB.mono HB1.out.size)
        have q1 : wr.cell? ⟨gi, k, none⟩ = some (.int .i64 (b : Int)) := by
          have := hci k hlt2
          rw [← hb] at this
          exact (HBw.out.cell (p := ⟨gi, k, none⟩) (World.block_lt_of_cell? w _ this)).trans this
        have q2 : wr.cell? ⟨s, 0, none⟩ = some (.pointer (some ⟨d, 0, none⟩)) := (Blk.below HS.out HBw.out (Blk.lt HS.out)).cell 0
        have hrd : D.read (b : Int) = (0, D.see b) := by
          unfold Dsk.read
          rw [HDN.out, if_neg (by simp), if_neg (by omega)]
          rfl
        have hln : (D.see b).length = 256 := Dsk.see_length HD.out.1 hbb.2
        have HRD := Lib.hid hrd
        have HBE := Lib.hid hb
        have HLN := Lib.hid hln
        have HOWN := Lib.hid hown
        have HBr := Lib.hid hB
        clear hrd hb hln hci hown hB
        go_wp2_with fail
        refine (read_any wr (HD.out.below HBw.out) hpen _).mono ?_
        rw [HRD.out]
        rintro e w2 ⟨v2, rfl, hgot, hb2⟩
        obtain ⟨g2, cap2, rfl, hcap2, hc2⟩ := got_cells hgot HLN.out
        have HC2 := Lib.hid hc2
        have HB2 := Lib.hid hb2
        clear hgot hb2 hc2
        have hown2 : w2.ownsRow w1.heap.size 5 1 u10 (readAll D (p.blocks.take k)).length ((readAll D (p.blocks.take k)).map bv) := ownsRow_keeps HOWN.out (Keeps.of_below (F := fun _ => False) HB2.out) (fun _ _ h => h)
        have hrl : (readAll D (p.blocks.take k)).length ≤ 240 * nb := by
          rw [readAll_length HD.out.1 (fun x hx => (HPOK.out.blk x (List.mem_of_mem_take hx)).2), List.length_take]
          have := HNB.out
          omega
        have hw12 : w1.heap.size ≤ w2.heap.size := Nat.le_trans HBr.out.size HB2.out.size
        have HC3 : Hid (∀ (j : Nat) (u : Value), (((D.see b).take 240).map bv)[j]? = some u → w2.cell? ((⟨g2, 0, none⟩ : Addr).add j) = some u) := by
          intro j u hj
          rw [Addr.add_lit]
          refine HC2.out j u ?_
          rw [List.map_take, List.getElem?_take] at hj
          split at hj
          · exact hj
          · cases hj
        have HL3 : Hid ((((D.see b).take 240).map bv).length = 240 * 1) := by
          show (((D.see b).take 240).map bv).length = 240 * 1
          rw [List.length_map, List.length_take, HLN.out]
          rfl
        go_wp2_with (at_builtin; refine wpList_append_own _ rfl _ _ 89 rfl w1.heap.size 5 iu (.int .u8 0) 1 1 Tryz.underlying89 hiu hz0 hz1 hz2 rfl (by decide) _ _ _ rfl hown2 ⟨g2, 0, none⟩ 240 cap2 (((D.see b).take 240).map bv) rfl HL3.out HC3.out (oneCell_bv _) ?_ ?_ ?_ ?_; (unfold maxLen; omega); omega; omega; intro v' w8 hown8 hg8 _)
        exact ⟨⟨k + 1, by omega, by go_num, fetching_step hlt2 HBE.out HLN.out HBr.out HB2.out hown2 hown8 hg8⟩, by simp [intOf]; omega⟩
      · have hke : k = nb := by omega
        obtain ⟨hown, hB⟩ := hF
        rw [hke, List.take_of_length_le (by rw [HNB.out]; omega)] at hown
        have hrl : (readAll D p.blocks).length = 240 * nb := by
          rw [readAll_length HD.out.1 (fun x hx => (HPOK.out.blk x hx).2), HNB.out]
        have HBw : Hid (Below w.heap.size w wr) := HB1.out.trans (hB.mono HB1.out.size)
        have X0 : wr.cell? ⟨w.heap.size, 0, none⟩ = some (.int .i64 (sz : Int)) := (Blk.below HX1.out hB HX1.out.lt).cell 0
        have HX : Hid (Blk wr w.heap.size 130 #[.int .i64 (sz : Int), .int .u32 p.sum, .slice A5 nb c5]) := Blk.below HX1.out hB HX1.out.lt
        have hfe : fetchOf D p = (readAll D p.blocks).take sz := by unfold fetchOf; rw [HSZ.out]
        have HFE := Lib.hid hfe
        have HKE := Lib.hid hke
        have HBr := Lib.hid hB
        have HRL := Lib.hid hrl
        clear hfe hke hB hrl
        obtain ⟨hn0, hown2⟩ := hown
        rcases hown2 with ⟨rfl, h0⟩ | ⟨g8, cap8, cur8, rfl, hb8, hg8, hnc8, hcm8, hcs8, ht8⟩
        · have hz : sz = 0 := by
            have := HRL.out
            omega
          subst hz
          have HN0 := Lib.hid h0
          clear h0 hn0
          have X1 : wr.cell? ⟨w.heap.size, 1, none⟩ = some (.int .u32 p.sum) := HX.out.cell 1
          have HE0 : Hid (fetchOf D p = []) := by
            show fetchOf D p = []
            rw [HFE.out]
            rfl
          by_cases hcs : crc [] = p.sum
          all_goals
            first
              | (have tz : (crc [] != p.sum) = false := by simpa using hcs)
              | (have tz : (crc [] != p.sum) = true := by simpa using hcs)
            have HCS := Lib.hid hcs
            clear hcs
            go_wp2
            go_region_law
              (first
                | (go_simp; go_at_call 112; refine (checksum_calls none 0 0 [] _ rfl (by decide) (fun h => absurd h (by decide))).mono ?_; rintro e w5 ⟨rfl, hb5⟩; have x5 : w5.cell? ⟨w.heap.size, 1, none⟩ = some (.int .u32 p.sum) := ((Blk.below (Blk.drew HX.out) hb5 (Blk.lt HX.out)).cell 1)))
            all_goals
              go_wp2
              go_ret2
              have hBE : Below w.heap.size w w5 := HBw.out.trans ((below_drew hb5).mono HBw.out.size)
              first
                | (have e9 : R = (0, []) := by rw [HR.out, HE0.out, if_pos HCS.out]
                   rw [e9]
                   exact ⟨_, rfl, .inl ⟨rfl, rfl⟩, hBE⟩)
                | (have e9 : R = (53, []) := by rw [HR.out, HE0.out, if_neg HCS.out]
                   rw [e9]
                   exact ⟨_, rfl, .inl ⟨rfl, rfl⟩, hBE⟩)
        · obtain ⟨n8, hn8⟩ : ∃ n8, n8 = (readAll D p.blocks).length := ⟨_, rfl⟩
          rw [← hn8] at hnc8 ht8 hn0 ⊢
          obtain ⟨L, hL⟩ : ∃ L, L = (readAll D p.blocks).take sz := ⟨_, rfl⟩
          have hLl : L.length = sz := by
            rw [hL, List.length_take]
            have := HRL.out
            omega
          have hsc : sz ≤ cap8 := by
            have := HRL.out
            omega
          have hct : cur8.toList.take sz = L.map bv := by
            have e : (cur8.toList.take (n8 * 1)).take sz = cur8.toList.take sz := by
              rw [List.take_take, Nat.min_eq_left (by have := HRL.out; omega)]
            rw [← e, ht8, hL, List.map_take]
          have X1 : wr.cell? ⟨w.heap.size, 1, none⟩ = some (.int .u32 p.sum) := HX.out.cell 1
          have HE0 : Hid (fetchOf D p = L) := by
            show fetchOf D p = L
            rw [HFE.out, hL]
          have HB8 : Hid (Blk wr g8 5 cur8) := hg8
          have HC8 : Hid (Cells wr g8 0 (L.map bv)) := take_cells (t := 5) hg8 hct
          have HG8 : Hid (w1.heap.size ≤ g8) := hb8
          have HCM : Hid (cap8 ≤ maxLen) := hcm8
          have HCS8 : Hid (cur8.size = cap8) := by show cur8.size = cap8; omega
          have HCT := Lib.hid hct
          have HLL := Lib.hid hLl
          have HN8 := Lib.hid hn8
          have HL := Lib.hid hL
          clear hg8 hct hb8 hcm8 hcs8 hLl hn8 hL ht8 hn0
          by_cases hcs : crc L = p.sum
          all_goals
            first
              | (have tz : (crc L != p.sum) = false := by simpa using hcs)
              | (have tz : (crc L != p.sum) = true := by simpa using hcs)
            have HCS := Lib.hid hcs
            clear hcs
            go_wp2
            go_region_law
              (first
                | (go_simp; go_at_call 112; refine (checksum_calls _ _ _ L _ HLL.out.symm ?_ ?_).mono ?_; (rw [HLL.out]; omega); exact fun _ => ⟨g8, 0, rfl, HC8.out⟩; rintro e w5 ⟨rfl, hb5⟩; have x5 : w5.cell? ⟨w.heap.size, 1, none⟩ = some (.int .u32 p.sum) := ((Blk.below (Blk.drew HX.out) hb5 (Blk.lt HX.out)).cell 1)))
            all_goals
              go_wp2
              go_ret2
              have hBE : Below w.heap.size w w5 := HBw.out.trans ((below_drew hb5).mono HBw.out.size)
              first
                | (have e9 : R = (0, L) := by rw [HR.out, HE0.out, if_pos HCS.out]
                   rw [e9]
                   refine ⟨_, rfl, .inr ⟨g8, cap8, cur8, by rw [HLL.out]; rfl, Nat.le_trans (Nat.le_of_lt hsz1) HG8.out, Blk.below (Blk.drew HB8.out) hb5 (Blk.lt HB8.out), by rw [HLL.out]; exact hsc, HCM.out, HCS8.out, by rw [HLL.out]; exact HCT.out⟩, hBE⟩)
                | (have e9 : R = (53, []) := by rw [HR.out, HE0.out, if_neg HCS.out]
                   rw [e9]
                   exact ⟨_, rfl, .inl ⟨rfl, rfl⟩, hBE⟩)

end Go.Proofs.YtbgiklkpinflaaaGreat

namespace Go.Proofs.YtbgiklkpinflaaaGreat
open Go.RowKit Go.Shelf Go.Maps

def getOf (life : Nat) (D : Dsk) (ps : List (List UInt8 × Place)) (k : List UInt8) : Int × List UInt8 := if isDead life D then (50, []) else D.fetch ps k
theorem isDead_up {life : Nat} {D : Dsk} (h : isDead life D = false) : D.down = false := by
  unfold isDead at h
  rw [Bool.or_eq_false_iff] at h
  exact h.2

set_option maxRecDepth 100000 in
set_option maxHeartbeats 4000000 in
theorem get_calls {P : Nat → Prop} {w : World} {s d life a mb : Nat} {pv nv gv : Value} {op : Bool} {D : Dsk} {S : List Nat} {st : St} (hs : StoBlk w s d life a pv op nv gv) (hD : DiskAt P w d D S) (hst : StateAt w a mb st)
    (hok : StOk D.blocks.length st) (hpen : D.pending.length ≤ 1000000000) (key : ByteArray) (hk : key.size ≤ maxLen) :
    Calls Tryz.prog 50 #[.pointer (some ⟨s, 0, none⟩), .string key] w (FetchPost w (getOf life D st.places key.data.toList)) := by
  have HDD := Lib.hid (dead_calls hs hD)
  obtain ⟨R, hR⟩ : ∃ R, R = getOf life D st.places key.data.toList := ⟨_, rfl⟩
  rw [← hR]
  have HR := Lib.hid hR
  cases hdd : isDead life D
  · have e1 : R = D.fetch st.places key.data.toList := by rw [hR]; unfold getOf; rw [hdd]; rfl
    have HF : Hid (∀ w1, Below w.heap.size w w1 → Calls Tryz.prog 103 #[.pointer (some ⟨s, 0, none⟩), .pointer (some ⟨a, 0, none⟩), .string key] w1 (FetchPost w1 R)) := by
      show ∀ w1, _
      intro w1 hb
      rw [e1]
      exact fetch_calls (Blk.below hs hb (Blk.lt hs)) (hD.below hb) (hst.below hb) hok (isDead_up hdd) hpen key hk
    have HS := Lib.hid hs
    rw [hdd] at HDD
    clear hR hdd e1 hs hD hst hok
    go_enter Tryz.func50, Tryz.ntmps50
    go_wp2_with (go_at_call 60; refine HDD.out.mono ?_; rintro e w1 ⟨rfl, nq, hw1⟩; have HB1 : Hid (Below w.heap.size w w1) := (by show Below w.heap.size w w1; rw [hw1]; exact (Below.refl _ w).drewN_ nq); clear hw1; have c2 : w1.cell? ⟨s, 2, none⟩ = some (.pointer (some ⟨a, 0, none⟩)) := (Blk.below HS.out HB1.out (Blk.lt HS.out)).cell 2)
    refine (HF.out _ HB1.out).mono ?_
    rintro e w2 ⟨v, rfl, hg, hb2⟩
    have HG := Lib.hid hg
    have HB2 := Lib.hid hb2
    clear hg hb2
    go_wp2
    go_ret2
    exact ⟨v, rfl, HG.out.imp id (fun h => h.mono fun g hg => Nat.le_trans HB1.out.size hg), HB1.out.trans (HB2.out.mono HB1.out.size)⟩
  · have e1 : R = (50, []) := by rw [hR]; unfold getOf; rw [hdd]; rfl
    rw [hdd] at HDD
    rw [e1]
    clear hR hdd e1 hs hD hst hok
    go_enter Tryz.func50, Tryz.ntmps50
    go_wp2_with (go_at_call 60; refine HDD.out.mono ?_; rintro e w1 ⟨rfl, nq, hw1⟩; have HB1 : Hid (Below w.heap.size w w1) := (by show Below w.heap.size w w1; rw [hw1]; exact (Below.refl _ w).drewN_ nq); clear hw1)
    go_ret2
    exact ⟨_, rfl, .inl ⟨rfl, rfl⟩, HB1.out⟩

end Go.Proofs.YtbgiklkpinflaaaGreat
