/- written. -/
import Derived.Test.YtbgiklkpinflaaaGreatState
import Derived.Lib.AppendStr
namespace Go.Proofs.YtbgiklkpinflaaaGreat
open Go.RowKit Go.Shelf Go.Maps

/-- A row of strings, as a slice. -/
theorem strs_slice {w : World} {base : Nat} {v : Value} {ks : List (List UInt8)} (h : StrsAt w base v ks) : ∃ A c, v = .slice A ks.length c ∧ (0 < ks.length → ∃ g, A = some ⟨g, 0, none⟩ ∧ g < w.heap.size ∧ ∀ j (hj : j < ks.length), w.cell? ⟨g, j, none⟩ = some (.string ⟨ks[j].toArray⟩)) := by
  rcases h.2 with h1 | ⟨g, cap, cur, rfl, hb, hg, hnc, hcm, hcs, ht⟩
  · exact ⟨none, 0, by rw [h1.1, h1.2], fun h => by have := h1.2; omega⟩
  · refine ⟨_, cap, rfl, fun _ => ⟨g, rfl, Blk.lt (t := 9) hg, fun j hj => ?_⟩⟩
    have := take_cells (t := 9) hg (by simpa using ht) j (encStr ks[j]) (by simp [hj])
    rw [Nat.zero_add] at this
    exact this

theorem mget_at {α : Type} : ∀ {m : List (List UInt8 × α)}, Srt m → ∀ {k : Nat} {x : List UInt8 × α}, m[k]? = some x → mget m x.1 = some x.2
  | [], _, _, _, h => by simp at h
  | y :: r, hs, k, x, h => by
    unfold Srt at hs
    rw [List.pairwise_cons] at hs
    cases k with
    | zero =>
      have e : y = x := by simpa using h
      subst e
      simp [mget]
    | succ k =>
      have h' : r[k]? = some x := by simpa using h
      have hne : ¬ y.1 = x.1 := fun e => by
        have := hs.1 x (List.mem_of_getElem? h')
        rw [e] at this
        exact List.lt_irrefl _ this
      have := mget_at hs.2 h'
      unfold mget at this ⊢
      rw [List.find?_cons_of_neg (by simpa using hne)]
      exact this

theorem writtenOf_le {n : Nat} : ∀ {ps : List (List UInt8 × Place)}, (∀ x ∈ ps, x.1.length ≤ 64) → (∀ x ∈ ps, PlaceOk n x.2) → (writtenOf ps).length ≤ 700 * ps.length
  | [], _, _ => by simp [writtenOf]
  | x :: r, h1, h2 => by
    have ih := writtenOf_le (ps := r) (fun y hy => h1 y (by simp [hy])) (fun y hy => h2 y (by simp [hy]))
    have e : writtenOf (x :: r) = placeBytes x ++ writtenOf r := rfl
    rw [e, List.length_append, placeBytes_length, List.length_cons]
    have a := h1 x (by simp)
    have b := h2 x (by simp)
    have c := b.len
    have d := b.size
    omega

theorem own_lt {w : World} {base n size : Nat} {e : TypeId} {v : Value} {xs : List Value} (h : w.ownsRow base e size v n xs) : ∀ g, v.ownBlock = some g → g < w.heap.size := by
  intro g hg
  rcases h.2 with ⟨rfl, _⟩ | ⟨g', cap, cur, rfl, _, hk, _⟩
  · simp [Value.ownBlock] at hg
  · simp [Value.ownBlock] at hg
    subst hg
    exact Blk.lt (t := e) hk
theorem own_nil_length {w : World} {base n size : Nat} {e : TypeId} {v : Value} {xs : List Value} (h : w.ownsRow base e size v n xs) (hv : v = .slice none 0 0) : n = 0 := by
  rcases h.2 with h1 | ⟨g, cap, cur, e1, _⟩
  · exact h1.2
  · rw [hv] at e1
    cases e1
theorem own_ne_new {w : World} {base n size : Nat} {e : TypeId} {v : Value} {xs : List Value} (h : w.ownsRow base e size v n xs) : v.ownBlock ≠ some w.heap.size := fun hg => Nat.lt_irrefl _ (own_lt h _ hg)

/-- The list is written up to k. -/
def Writing (w1 : World) (ps : List (List UInt8 × Place)) (k : Nat) (v : Value) (wr : World) : Prop :=
  wr.ownsRow w1.heap.size 5 1 v (writtenOf (ps.take k)).length ((writtenOf (ps.take k)).map bv) ∧ (v = .slice none 0 0 ↔ k = 0) ∧ Below w1.heap.size w1 wr

/-- j of the numbers are listed. -/
def Listing (w1 : World) (L : List UInt8) (bs : List Nat) (j : Nat) (v : Value) (wi : World) : Prop :=
  wi.ownsRow w1.heap.size 5 1 v (L ++ (bs.take j).flatMap fun b => be b 2).length ((L ++ (bs.take j).flatMap fun b => be b 2).map bv) ∧ Below w1.heap.size w1 wi

set_option maxRecDepth 100000 in
set_option maxHeartbeats 4000000 in
theorem written_calls {a mb n : Nat} {st : St} (w : World) (h : StateAt w a mb st) (hok : StOk n st) :
    Calls Tryz.prog 118 #[.pointer (some ⟨a, 0, none⟩)] w fun e w' => ∃ v, e = .returned v ∧ ((v = .slice none 0 0 ∧ writtenOf st.places = []) ∨ (0 < (writtenOf st.places).length ∧ BytesAt (w.heap.size ≤ ·) w' v (writtenOf st.places))) ∧ Below w.heap.size w w' := by
  obtain ⟨sv, hb, hn, l, hM, hps, hpl⟩ := h
  have hlen : (mmap (fun x : Value × Place => x.1) l).length = st.places.length := by rw [hps, mmap_length, mmap_length]
  have hsrt : Srt (mmap (fun x : Value × Place => x.1) l) := by
    have h1 := hok.srt
    rw [hps] at h1
    unfold Srt mmap at h1 ⊢
    rw [List.pairwise_map] at h1 ⊢
    exact h1
  have hkeys : (mmap (fun x : Value × Place => x.1) l).map (·.1) = st.places.map (·.1) := by rw [hps]; simp [mmap]
  have c1 : w.cell? ⟨a, 1, none⟩ = some (.map (some mb)) := hb.cell 1
  have hfew := hok.few
  have HKC := Lib.hid (keys_places w mb _ hM hsrt (by rw [hlen]; omega))
  have HM := Lib.hid hM
  have HS := Lib.hid hsrt
  have HPS := Lib.hid hps
  have HPL := Lib.hid hpl
  have HKE := Lib.hid hkeys
  have HOK := Lib.hid hok
  clear hM hsrt hps hpl hkeys hlen hok hn
  have haw : a < w.heap.size := hb.lt
  have hmbw : mb < w.heap.size := HM.out.lt
  obtain ⟨N, hN⟩ : ∃ N, N = st.places.length := ⟨_, rfl⟩
  rw [← hN] at hfew
  have HN := Lib.hid hN
  clear hN
  obtain ⟨i0, hi, hz0, hz1, hz2⟩ := info_parts Tryz.infoU8
  go_enter Tryz.func118, Tryz.ntmps118
  go_wp2_with (first
    | (go_at_call 88; refine (callsIn_wide.1 (Tryz.maps_Keys_88 _ _)).mono ?_; rintro e w' ⟨rfl, rfl⟩)
    | (go_at_call 72; refine HKC.out.mono ?_; rintro e w1 ⟨vk, rfl, hstr, hbel⟩; rw [HKE.out] at hstr; obtain ⟨Ak, ck, hvk, hck⟩ := strs_slice hstr; rw [List.length_map, ← HN.out] at hvk; subst hvk; have HCK := Lib.hid hck; have HSTR := Lib.hid hstr; clear hck hstr))
  have hw1 := hbel.size
  go_loopw [3, 16] (fun v i wr => ∃ k : Nat, k ≤ N ∧ i = .int .i64 k ∧ Writing w1 st.places k v wr) (fun _ i _ => N - (intOf i).toNat)
  case atStart => exact ⟨0, Nat.zero_le _, rfl, World.ownsRow_nil w1 _ _ _, by simp, Below.refl _ _⟩
  case round =>
    obtain ⟨k, hk, rfl, hW⟩ := hrel
    by_cases hlt : k < N
    · obtain ⟨hown, hnil, hB⟩ := hW
      have hlt' : k < st.places.length := by rw [← HN.out]; exact hlt
      obtain ⟨gk, rfl, hgk, hcell⟩ := HCK.out (by rw [List.length_map, ← HN.out]; omega)
      obtain ⟨key, hkey⟩ : ∃ key, key = st.places[k].1 := ⟨_, rfl⟩
      have q1 : wr.cell? ⟨gk, k, none⟩ = some (.string ⟨key.toArray⟩) := by
        have := hcell k (by rw [List.length_map]; exact hlt')
        rw [List.getElem_map, ← hkey] at this
        exact (hB.cell (p := ⟨gk, k, none⟩) hgk).trans this
      have hkl := HOK.out.keys st.places[k] (List.getElem_mem hlt')
      rw [← hkey] at hkl
      obtain ⟨hk0, hk64⟩ := hkl
      have hBw : Below w.heap.size w wr := hbel.trans (hB.mono hw1)
      have c1r : wr.cell? ⟨a, 1, none⟩ = some (.map (some mb)) := (hBw.cell (p := ⟨a, 1, none⟩) haw).trans c1
      have HMr : Hid (MapAt wr mb (mmap (fun x : Value × Place => x.1) l)) := HM.out.below hBw
      obtain ⟨v, p, hlk, hpk⟩ : ∃ v p, l[k]? = some (key, (v, p)) ∧ st.places[k].2 = p := by
        have hll : k < l.length := by have := congrArg List.length HPS.out; rw [mmap_length] at this; omega
        have e : st.places[k]? = (mmap (fun x : Value × Place => x.2) l)[k]? := by rw [HPS.out]
        rw [List.getElem?_eq_getElem hlt', mmap, List.getElem?_map, List.getElem?_eq_getElem hll] at e
        have e2 : st.places[k] = (l[k].1, l[k].2.2) := by simpa using e
        refine ⟨l[k].2.1, l[k].2.2, ?_, by rw [e2]⟩
        rw [List.getElem?_eq_getElem hll, hkey, e2]
      have hget : mget (mmap (fun x : Value × Place => x.1) l) key = some v := by
        have : (mmap (fun x : Value × Place => x.1) l)[k]? = some (key, v) := by rw [mmap, List.getElem?_map, hlk]; rfl
        exact mget_at HS.out this
      have hpa : PlaceAt w v p := HPL.out _ (List.mem_of_getElem? hlk)
      obtain ⟨svp, rfl, hnp⟩ := hpa
      have hpok := HOK.out.places st.places[k] (List.getElem_mem hlt')
      rw [hpk] at hpok
      obtain ⟨sm, hsm⟩ : ∃ sm : Nat, p.sum = (sm : Int) := ⟨p.sum.toNat, by have := hpok.sum0; omega⟩
      rw [hsm] at hget
      have lsm : (sm : Int) ≤ 4294967295 := by have := hpok.sum1; omega
      have lsz : (p.size : Int) ≤ 65536 := by have := hpok.size; omega
      have lbl : p.blocks.length ≤ 274 := by have := hpok.len; have := hpok.size; omega
      have hbk : ∀ b ∈ p.blocks, b ≤ 1024 := fun b hb => by have := (hpok.blk b hb).2; have := HOK.out.most; omega
      have HSM := Lib.hid hsm
      have HBK := Lib.hid hbk
      clear hsm hpok hbk
      obtain ⟨Ap, cp, rfl, _⟩ := id hnp
      have HGET := Lib.hid hget
      have HKM : Hid ((⟨key.toArray⟩ : ByteArray).size ≤ maxLen) := by show key.toArray.size ≤ maxLen; rw [List.size_toArray]; unfold maxLen; omega
      have HKEY := Lib.hid hkey
      have HNP := Lib.hid hnp
      have HPK := Lib.hid hpk
      have HOWN := Lib.hid hown
      clear hget hkey hnp hpk hlk hown hcell
      obtain ⟨L0, hL0⟩ : ∃ L0, L0 = writtenOf (st.places.take k) := ⟨_, rfl⟩
      have hLle : L0.length ≤ 358400 := by
        have := writtenOf_le (n := n) (ps := st.places.take k) (fun x hx => (HOK.out.keys x (List.mem_of_mem_take hx)).2) (fun x hx => HOK.out.places x (List.mem_of_mem_take hx))
        rw [← hL0, List.length_take] at this
        have := HOK.out.few
        omega
      have HL0 := Lib.hid hL0
      rw [← hL0] at HOWN
      clear hL0
      have hszr := hB.size
      go_wp2_with (first
        | (at_lookup; refine wpList_get_some _ rfl _ _ _ rfl 130 Tryz.underlying131 (Tryz.zeroValue130 _) mb _ rfl HMr.out ⟨key.toArray⟩ rfl HKM.out _ HGET.out ?_)
        | (at_builtin; refine wpList_append_lies _ rfl _ _ 89 rfl w1.heap.size 5 i0 (.int .u8 0) 1 1 Tryz.underlying89 hi hz0 hz1 hz2 rfl (by decide) _ _ _ rfl ((HOWN.out.alloc _).alloc _) ⟨wr.heap.size + 1, 0, none⟩ 1 1 [.int .u8 (key.length : Int)] rfl rfl ?c1 ?c2 (by decide) ?c3 ?c4 ?c5 (wr.heap.size + 2) ?c8 ?_))
      case c1 =>
        have := cell_one_new (wr.alloc (.cells #[.int .i64 (p.size : Int), .int .u32 (sm : Int), .slice Ap p.blocks.length cp] 130)) (.int .u8 (key.length : Int)) 5
        rw [World.size_alloc] at this
        exact this
      case c2 => simp [Value.oneCell']
      case c3 => unfold maxLen; omega
      case c4 => omega
      case c5 => simp; omega
      case c8 => simp
      intro gg cap2 w2 hown2 hgrow2 _ _
      have HBX2 : Hid (Blk w2 wr.heap.size 130 #[.int .i64 (p.size : Int), .int .u32 (sm : Int), .slice Ap p.blocks.length cp]) :=
        ((Blk.new wr _ _).alloc _).grown hgrow2 (own_ne_new HOWN.out)
      have HB2 : Hid (Below w1.heap.size w1 w2) := ((hB.alloc hszr _).alloc (by simp; omega) _).grown hgrow2 (by simp; omega) (own_ge HOWN.out)
      have e2 : L0.map bv ++ [Value.int .u8 (key.length : Int)] = (L0 ++ [UInt8.ofNat key.length]).map bv := by
        rw [List.map_append]
        congr 1
        show [_] = [Value.int .u8 (((UInt8.ofNat key.length).toNat : Nat) : Int)]
        rw [UInt8.toNat_ofNat_of_lt' (by show key.length < 256; omega)]
      rw [e2] at hown2
      have H2 := Lib.hid hown2
      have hs2 := HB2.out.size
      clear hown2 hgrow2 e2
      go_wp2_with (at_builtin; refine Go.Lib.wpList_append_own_string _ rfl _ _ 89 9 rfl w1.heap.size 5 i0 Tryz.underlying89 Tryz.underlying9 hi hz0 hz1 hz2 _ _ _ rfl H2.out ⟨key.toArray⟩ rfl ?d1 ?d2 hs2 ?_)
      case d1 => show _ + key.toArray.size ≤ _; rw [List.size_toArray]; unfold maxLen; omega
      case d2 => show _ + key.toArray.size ≤ _; rw [List.size_toArray]; omega
      intro v3 w3 hown3 hgrow3 _
      have HBX3 : Hid (Blk w3 wr.heap.size 130 #[.int .i64 (p.size : Int), .int .u32 (sm : Int), .slice Ap p.blocks.length cp]) :=
        HBX2.out.grown hgrow3 (own_blk_ne H2.out HBX2.out (by decide))
      have HB3 : Hid (Below w1.heap.size w1 w3) := HB2.out.grown hgrow3 hs2 (own_ge H2.out)
      obtain ⟨L3, hL3⟩ : ∃ L3, L3 = L0 ++ UInt8.ofNat key.length :: key := ⟨_, rfl⟩
      have hown3' : w3.ownsRow w1.heap.size 5 1 v3 L3.length (L3.map bv) := by
        have e3 : L3.length = L0.length + 1 + key.length := by rw [hL3, List.length_append, List.length_cons]; omega
        have e4 : L3.map bv = L0.map bv ++ bv (UInt8.ofNat key.length) :: Lib.strCells ⟨key.toArray⟩ := by rw [hL3, List.map_append, List.map_cons]; rfl
        rw [e3, e4]
        simpa using hown3
      have l3 : L3.length ≤ 358500 := by rw [hL3, List.length_append, List.length_cons]; omega
      have H3 := Lib.hid hown3'
      have HL3 := Lib.hid hL3
      have hs3 := HB3.out.size
      have p0 : w3.cell? ⟨wr.heap.size, 0, none⟩ = some (.int .i64 (p.size : Int)) := HBX3.out.cell 0
      clear hown3 hown3' hgrow3 hL3
      go_wp2_with fail
      refine (put_keeps w1.heap.size _ L3 p.size 3 _ (.inr H3.out) hs3 (by omega) (by decide) (by decide) (by omega)).mono ?_
      rintro e w4 ⟨v4, rfl, hown4, hbel4, hkp4, _⟩
      have HBX4 : Hid (Blk w4 wr.heap.size 130 #[.int .i64 (p.size : Int), .int .u32 (sm : Int), .slice Ap p.blocks.length cp]) := HBX3.out.keeps hkp4 (own_blk_ne H3.out HBX3.out (by decide))
      have HB4 : Hid (Below w1.heap.size w1 w4) := HB3.out.trans hbel4
      have H4 := Lib.hid hown4
      have hs4 := HB4.out.size
      have p1 : w4.cell? ⟨wr.heap.size, 1, none⟩ = some (.int .u32 (sm : Int)) := HBX4.out.cell 1
      clear hown4 hbel4 hkp4
      go_wp2_with fail
      refine (put_keeps w1.heap.size _ _ sm 4 _ (.inr H4.out) hs4 (by omega) (by decide) (by decide) (by rw [List.length_append, be_length]; omega)).mono ?_
      rintro e w5 ⟨v5, rfl, hown5, hbel5, hkp5, _⟩
      have HBX5 : Hid (Blk w5 wr.heap.size 130 #[.int .i64 (p.size : Int), .int .u32 (sm : Int), .slice Ap p.blocks.length cp]) := HBX4.out.keeps hkp5 (own_blk_ne H4.out HBX4.out (by decide))
      have HB5 : Hid (Below w1.heap.size w1 w5) := HB4.out.trans hbel5
      obtain ⟨L5, hL5⟩ : ∃ L5, L5 = L3 ++ be p.size 3 ++ be sm 4 := ⟨_, rfl⟩
      rw [← hL5] at hown5
      have l5 : L5.length ≤ 358600 := by rw [hL5, List.length_append, List.length_append, be_length, be_length]; omega
      have H5 := Lib.hid hown5
      have HL5 := Lib.hid hL5
      have p2 : w5.cell? ⟨wr.heap.size, 2, none⟩ = some (.slice Ap p.blocks.length cp) := HBX5.out.cell 2
      clear hown5 hbel5 hkp5 hL5
      go_wp2_with fail
      have hBLw : Hid (∀ j (hj : j < p.blocks.length) (wx : World), Below w1.heap.size w1 wx → ∃ g, Ap = some ⟨g, 0, none⟩ ∧ wx.cell? ⟨g, j, none⟩ = some (.int .i64 (p.blocks[j] : Int))) := by
        intro j hj wx hbx
        obtain ⟨g, hg, hc⟩ := HNP.out.cell (by omega)
        exact ⟨g, hg, ((hbel.trans (hbx.mono hw1)).cell (p := ⟨g, j, none⟩) (World.block_lt_of_cell? w _ (hc j hj))).trans (hc j hj)⟩
      obtain ⟨wo, rfl⟩ : ∃ wo : World, wo = wr := ⟨_, rfl⟩
      go_loopw [3, 48] (fun v i wi => ∃ j : Nat, j ≤ p.blocks.length ∧ i = .int .i64 j ∧ Listing w1 L5 p.blocks j v wi) (fun _ i _ => p.blocks.length - (intOf i).toNat)
      case atStart => exact ⟨0, Nat.zero_le _, rfl, by simpa using H5.out, HB5.out⟩
      case round =>
        obtain ⟨j, hj, rfl, hI⟩ := hrel
        by_cases hlj : j < p.blocks.length
        · obtain ⟨hownj, hBj⟩ := hI
          obtain ⟨gb, rfl, qb⟩ := hBLw.out j hlj wr hBj
          obtain ⟨bk, hbk⟩ : ∃ bk, bk = p.blocks[j] := ⟨_, rfl⟩
          rw [← hbk] at qb
          have lbk : bk ≤ 1024 := by rw [hbk]; exact HBK.out _ (List.getElem_mem hlj)
          have HBJ := Lib.hid hbk
          have lj : (L5 ++ (p.blocks.take j).flatMap fun b => be b 2).length ≤ 1000000000 := by
            rw [List.length_append, beAll_length, List.length_take]
            omega
          have HOJ := Lib.hid hownj
          clear hbk hownj
          go_wp2_with fail
          refine (put_calls w1.heap.size _ _ bk 2 _ (.inr HOJ.out) hBj.size (by omega) (by decide) (by decide) lj).mono ?_
          rintro e w6 ⟨v6, rfl, hown6, hbel6⟩
          have hLi : Listing w1 L5 p.blocks (j + 1) v6 w6 := by
            refine ⟨?_, hBj.trans hbel6⟩
            rw [List.take_succ_eq_append_getElem hlj, List.flatMap_append, List.flatMap_singleton, ← HBJ.out, ← List.append_assoc]
            exact hown6
          have HLI := Lib.hid hLi
          clear hown6 hbel6 hLi
          go_wp2
          go_roundw
          case rel => exact ⟨j + 1, by omega, by go_num, HLI.out⟩
          case measure => simp [intOf]; omega
        · have hj2 : j = p.blocks.length := by omega
          have HJ := Lib.hid hj2
          clear hj2
          go_wp2
          refine ⟨⟨k + 1, by omega, by go_num, ?_⟩, by simp [intOf]; omega⟩
          obtain ⟨ho, hb'⟩ := hI
          have e : L5 ++ ((p.blocks.take j).flatMap fun b => be b 2) = writtenOf (st.places.take (k + 1)) := by
            have esm : sm = p.sum.toNat := by have := HSM.out; omega
            rw [writtenOf_take _ hlt', HJ.out, List.take_length, HL5.out, HL3.out, HL0.out, placeBytes, HPK.out, ← HKEY.out, ← esm]
            simp
          rw [e] at ho
          refine ⟨ho, ⟨fun h => ?_, fun h => absurd h (by omega)⟩, hb'⟩
          have hz := own_nil_length ho h
          rw [writtenOf_take _ hlt', List.length_append, placeBytes_length] at hz
          omega
    · have hk2 : k = N := by omega
      have HK := Lib.hid hk2
      clear hk2
      go_wp2
      go_ret
      obtain ⟨ho, hnil, hB⟩ := hW
      have e : writtenOf (st.places.take k) = writtenOf st.places := by rw [HK.out, HN.out, List.take_length]
      rw [e] at ho
      refine ⟨_, rfl, ?_, hbel.trans (hB.mono hw1)⟩
      rcases Nat.eq_zero_or_pos k with h0 | h0
      · left
        have hz := own_nil_length ho (hnil.2 h0)
        exact ⟨hnil.2 h0, List.eq_nil_of_length_eq_zero hz⟩
      · right
        have hne : _ ≠ Value.slice none 0 0 := fun h => absurd (hnil.1 h) (by omega)
        refine ⟨?_, (BytesAt.of_own ho hne).mono (fun g hg => Nat.le_trans hw1 hg)⟩
        have hpos : 0 < st.places.length := by rw [← HN.out, ← HK.out]; exact h0
        cases hps : st.places with
        | nil => rw [hps] at hpos; exact absurd hpos (Nat.lt_irrefl _)
        | cons x r =>
          show 0 < (placeBytes x ++ writtenOf r).length
          rw [List.length_append, placeBytes_length]
          omega

end Go.Proofs.YtbgiklkpinflaaaGreat
