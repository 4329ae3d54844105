/- StoreLast: State.Same; two benches with what they have noted; laid. -/
import Derived.Test.YtbgiklkpinflaaaGreatLastC

namespace Go.Proofs.YtbgiklkpinflaaaGreat
open Go.RowKit Go.Shelf Go.Maps
attribute [local go_sem ↓] Go.wp_at_zero Go.wp_at_succ

set_option maxRecDepth 100000 in
set_option maxHeartbeats 8000000 in
theorem sameR_calls {w : World} {v1 v2 : Value} {E1 E2 : List Ent} (g1 g2 : Int) (h1 : EntsAt Any w v1 E1) (h2 : EntsAt Any w v2 E2) (hl : E1.length ≤ 1000) (he : E1.map kvOf = E2.map kvOf) :
    Calls Tryz.prog 23 #[.agg #[.int .i64 g1, v1], .agg #[.int .i64 g2, v2]] w fun e w' => e = .returned (.bool true) ∧ Below w.heap.size w w' := by
  obtain ⟨ps, hps, hp⟩ := h1
  obtain ⟨qs, hqs, hq⟩ := h2
  have hpl : ps.length = E1.length := by rw [← hps, List.length_map]
  have hql : qs.length = ps.length := by
    have := congrArg List.length he
    rw [List.length_map, List.length_map] at this
    rw [hpl, this, ← hqs, List.length_map]
  have hkv : ∀ (j : Nat) (h : j < ps.length) (h' : j < qs.length), ps[j].1.key = qs[j].1.key ∧ ps[j].1.val = qs[j].1.val := fun j h h' => by
    have e1 : E1[j]? = some ps[j].1 := by rw [← hps, List.getElem?_map, List.getElem?_eq_getElem h]; rfl
    have e2 : E2[j]? = some qs[j].1 := by rw [← hqs, List.getElem?_map, List.getElem?_eq_getElem h']; rfl
    have e3 := congrArg (fun l => l[j]?) he
    simp only [List.getElem?_map, e1, e2, Option.map_some, Option.some.injEq, Prod.mk.injEq] at e3
    exact ⟨kb_inj e3.1, e3.2⟩
  have HKV := Lib.hid hkv
  obtain ⟨A1, c1, rfl, hrow1⟩ := hp.row
  obtain ⟨A2, c2, rfl, hrow2⟩ := hq.row
  have HROW1 := Lib.hid hrow1
  have HROW2 := Lib.hid hrow2
  have HB1 := Lib.hid hp.2
  have HB2 := Lib.hid hq.2
  have HQL := Lib.hid hql
  have hpl1 : ps.length ≤ 1000 := by omega
  rw [hql]
  have hb1 := Blk.new w 46 #[.int .i64 g1, .slice A1 ps.length c1]
  have hb2 := Blk.new (w.alloc (.cells #[.int .i64 g1, .slice A1 ps.length c1] 46)) 46 #[.int .i64 g2, .slice A2 ps.length c2]
  obtain ⟨wb, hwb⟩ : ∃ wb, wb = (w.alloc (.cells #[.int .i64 g1, .slice A1 ps.length c1] 46)).alloc (.cells #[.int .i64 g2, .slice A2 ps.length c2] 46) := ⟨_, rfl⟩
  have hAB : Below w.heap.size w wb := by rw [hwb]; exact ((Below.refl _ w).alloc (Nat.le_refl _) _).alloc (by simp) _
  rw [← hwb] at hb2
  have hwsz : wb.heap.size = w.heap.size + 2 := by rw [hwb]; simp
  have HBOX : Hid (∀ wx, Below wb.heap.size wb wx → wx.cell? ⟨w.heap.size + 1, 0, none⟩ = some (.int .i64 g2) ∧ wx.cell? ⟨w.heap.size + 1, 1, none⟩ = some (.slice A2 ps.length c2)) := fun wx hb => by
    have hb3 := hb2.below hb hb2.lt
    simp only [World.size_alloc] at hb3
    exact ⟨hb3.cell 0, hb3.cell 1⟩
  have HA : Hid (∀ wx, Below wb.heap.size wb wx → Below w.heap.size w wx) := fun wx hb => hAB.trans (hb.mono (by omega))
  have HW := Lib.hid hwb
  clear hrow1 hrow2 hps hqs hp hq he hl hpl hql hkv hb1 hb2 hAB hwb hwsz
  go_enter Tryz.func23, Tryz.ntmps23
  go_wp2
  rw [← HW.out]
  go_loopw [5, 17] (fun _ x wr => ∃ j : Nat, j ≤ ps.length ∧ x = .int .i64 j ∧ Below wb.heap.size wb wr) (fun _ x _ => ps.length - (intOf x).toNat)
  case atStart => exact ⟨0, Nat.zero_le _, rfl, Below.refl _ _⟩
  case round =>
    obtain ⟨j, hj, rfl, hM⟩ := hrel
    have HM := Lib.hid hM
    by_cases hlt : j < ps.length
    · have tk : decide ((j : Int) < (ps.length : Int)) = true := by simp; omega
      have hltq : j < qs.length := by rw [HQL.out]; exact hlt
      have hMw := HA.out _ hM
      obtain ⟨x1, x2⟩ := HBOX.out _ hM
      obtain ⟨ga, rfl, p0, p1, p2⟩ := HROW1.out j _ (List.getElem?_eq_getElem hlt)
      obtain ⟨gb, rfl, q0, q1, q2⟩ := HROW2.out j _ (List.getElem?_eq_getElem hltq)
      have hBa := HB1.out _ (List.getElem_mem hlt)
      have hBb := HB2.out _ (List.getElem_mem hltq)
      obtain ⟨hk, hv⟩ := HKV.out j hlt hltq
      obtain ⟨xa, hxa⟩ : ∃ xa, xa = ps[j] := ⟨_, rfl⟩
      obtain ⟨xb, hxb⟩ : ∃ xb, xb = qs[j] := ⟨_, rfl⟩
      rw [← hxa] at p0 p1 p2 hBa hk hv
      rw [← hxb] at q0 q1 q2 hBb hk hv
      rw [← hk] at q0
      rw [← hv] at hBb
      have v1 := conv_bytes (hBa.below_ (hMw.alloc hMw.size (.cells #[.string xa.1.key, xa.2, .int .i64 (xa.1.id : Int)] 114)).drew_)
      have v2 := conv_bytes (hBb.below_ (hMw.alloc hMw.size (.cells #[.string xa.1.key, xa.2, .int .i64 (xa.1.id : Int)] 114)).drew_)
      obtain ⟨gx, cx, curx, hvx, _⟩ := hBa.cells
      obtain ⟨gy, cy, cury, hvy, _⟩ := hBb.cells
      rw [hvx] at p1 v1 v2
      rw [hvy] at q1 v2
      have p0 := (hMw.cell (World.block_lt_of_cell? w _ p0)).trans p0
      have p1 := (hMw.cell (World.block_lt_of_cell? w _ p1)).trans p1
      have p2 := (hMw.cell (World.block_lt_of_cell? w _ p2)).trans p2
      have q0 := (hMw.cell (World.block_lt_of_cell? w _ q0)).trans q0
      have q1 := (hMw.cell (World.block_lt_of_cell? w _ q1)).trans q1
      obtain ⟨z, hz⟩ : ∃ z : ByteArray, z = ⟨xa.1.val.toArray⟩ := ⟨_, rfl⟩
      rw [← hz] at v1 v2
      have x2a : ∀ o, (wr.alloc o).cell? _ = some _ := fun o => Lib.cell?_alloc_some _ x2
      have q0a : ∀ o, (wr.alloc o).cell? _ = some _ := fun o => Lib.cell?_alloc_some _ q0
      have q1a : ∀ o, (wr.alloc o).cell? _ = some _ := fun o => Lib.cell?_alloc_some _ q1
      have HM2 : Hid (∀ o, Below wb.heap.size wb (wr.alloc o)) := fun o => hM.alloc hM.size _
      clear hxa hxb hBa hBb hvx hvy hk hv hM hMw q2 hz
      go_wp2
      go_region
      go_wp2
      go_roundw
      case rel => exact ⟨j + 1, by omega, by go_num, (HM2.out _).drew_⟩
      case measure => simp [intOf]; omega
    · obtain rfl : j = ps.length := by omega
      have tk : decide ((ps.length : Int) < ps.length) = false := by simp
      clear hM
      go_wp2
      go_ret
      exact ⟨rfl, HA.out _ HM.out⟩

/-- Two benches with what they have noted. -/
def Pair (w0 : World) (gb db sb rb gc dc sc rc m : Nat) (Mb Mc : KV) (w : World) : Prop :=
  ∃ Yb nb Yc nc, Duo w0 w gb db sb rb Yb.sto Yb.ref gc dc sc rc Yc.sto Yc.ref ∧ Note60 m Yb nb Mb ∧ Note60 m Yc nc Mc
theorem Note60.mono {m k : Nat} {Y : Joint} {nx : Nx} {M : KV} (h : Note60 m Y nx M) (hk : m ≤ k) (h100 : k ≤ 100) : Note60 k Y nx M := ⟨h.ok.mono hk h100, h.armed, h.n, h.pins, h.ents, h.trans, h.all, h.eq⟩
section
variable {w0 w w' : World} {gb db sb rb gc dc sc rc m : Nat} {Mb Mc M : KV} {Xb Xc : Sto} {Rb Rc : RSto}
theorem Duo.cells (h : Duo w0 w gb db sb rb Xb Rb gc dc sc rc Xc Rc) : w.cell? ⟨gb, 1, none⟩ = some (.pointer (some ⟨sb, 0, none⟩)) ∧ w.cell? ⟨gb, 2, none⟩ = some (.pointer (some ⟨rb, 0, none⟩)) ∧ w.cell? ⟨gc, 1, none⟩ = some (.pointer (some ⟨sc, 0, none⟩)) ∧ w.cell? ⟨gc, 2, none⟩ = some (.pointer (some ⟨rc, 0, none⟩)) := by
  obtain ⟨Ob, Sb, mb, Oc, Sc, mc, h1, h2, _⟩ := h
  exact ⟨Blk.cell h1.bn.bench 1, Blk.cell h1.bn.bench 2, Blk.cell h2.bn.bench 1, Blk.cell h2.bn.bench 2⟩
theorem Duo.kept (h : Duo w0 w gb db sb rb Xb Rb gc dc sc rc Xc Rc) : Below w0.heap.size w0 w := by
  obtain ⟨Ob, Sb, mb, Oc, Sc, mc, h1, h2, _⟩ := h
  exact h1.bn.kept
theorem Pair.swap (h : Pair w0 gb db sb rb gc dc sc rc m Mb Mc w) : Pair w0 gc dc sc rc gb db sb rb m Mc Mb w := by
  obtain ⟨Yb, nb, Yc, nc, h1, h2, h3⟩ := h
  exact ⟨Yc, nc, Yb, nb, h1.swap, h3, h2⟩
theorem Pair.mono {k : Nat} (h : Pair w0 gb db sb rb gc dc sc rc m Mb Mc w) (hk : m ≤ k) (h100 : k ≤ 100) : Pair w0 gb db sb rb gc dc sc rc k Mb Mc w := by
  obtain ⟨Yb, nb, Yc, nc, h1, h2, h3⟩ := h
  exact ⟨Yb, nb, Yc, nc, h1, h2.mono hk h100, h3.mono hk h100⟩
theorem Pair.below (h : Pair w0 gb db sb rb gc dc sc rc m Mb Mc w) (hb : Below w.heap.size w w') : Pair w0 gb db sb rb gc dc sc rc m Mb Mc w' := by
  obtain ⟨Yb, nb, Yc, nc, h1, h2⟩ := h
  exact ⟨Yb, nb, Yc, nc, h1.below hb, h2⟩
theorem Pair.kept (h : Pair w0 gb db sb rb gc dc sc rc m Mb Mc w) : Below w0.heap.size w0 w := by
  obtain ⟨Yb, nb, Yc, nc, h1, h2⟩ := h
  exact h1.kept
theorem Pair.put (h : Pair w0 gb db sb rb gc dc sc rc m Mb Mc w) (hm : m + 1 ≤ 100) (kd : Nat) (key : ByteArray) (n y : Nat) (hn : n ≤ 65535) (hy : y ≤ 255) (hkd : (kd : Int) % 9 = 1) :
    Calls Tryz.prog 13 #[.pointer (some ⟨gb, 0, none⟩), .agg (opCells kd key n y)] w fun e w' => e = .returned (.bool true) ∧ Pair w0 gb db sb rb gc dc sc rc (m + 1) (noteStep Mb (key, valueOf n y)) Mc w' := by
  obtain ⟨Yb, nb, Yc, nc, h1, h2, h3⟩ := h
  obtain ⟨nx', h4⟩ := h2.put hm key (valueOf n y) (by rw [valueOf_length]; omega)
  refine (h1.call (E := fun e => e = .returned (.bool true)) (Xb' := (Yb.put1 nb key (valueOf n y)).sto) (Rb' := (Yb.put1 nb key (valueOf n y)).ref) fun O S mb hB => dob_put hB h2.ok h2.trans hm kd key n y hn hy hkd).mono ?_
  rintro e w' ⟨he, hD⟩
  exact ⟨he, _, nx', Yc, nc, hD, h4, h3.mono (Nat.le_succ m) hm⟩
/-- What the commits of both need. -/
theorem Pair.commits (h : Pair w0 gb db sb rb gc dc sc rc m M M w) (hm : m + 1 ≤ 100) : ∃ Yb Yb' Yc Yc' : Joint, ∃ code : Int, Duo w0 w gb db sb rb Yb.sto Yb.ref gc dc sc rc Yc.sto Yc.ref ∧ Ok (m + 1) Yb' ∧ Ok (m + 1) Yc' ∧ Yb'.ref.now.ents.map kvOf = Yc'.ref.now.ents.map kvOf ∧
    SCallB w0 gb db sb rb Yb.sto 21 #[] code Yb'.sto ∧ RCallB w0 gb db sb rb Yb.ref 22 #[] code Yb'.ref ∧
    SCallB w0 gc dc sc rc Yc.sto 21 #[] code Yc'.sto ∧ RCallB w0 gc dc sc rc Yc.ref 22 #[] code Yc'.ref := by
  obtain ⟨Yb, nb, Yc, nc, h1, h2, h3⟩ := h
  obtain ⟨Yb', code, b1, b2, b3, b4⟩ := commit_b (w0 := w0) (g := gb) (d := db) (s := sb) (r := rb) h2.ok h2.armed h2.trans hm
  obtain ⟨Yc', code', c1, c2, c3, c4⟩ := commit_b (w0 := w0) (g := gc) (d := dc) (s := sc) (r := rc) h3.ok h3.armed h3.trans hm
  have hf := h2.free
  have hf' := h3.free
  have hn := h2.need h3
  have hx : code' = code ∧ Yb'.ref.now.ents.map kvOf = Yc'.ref.now.ents.map kvOf := by
    rcases b2 with ⟨e1, rfl, e2⟩ | ⟨e1, rfl, e2⟩ <;> rcases c2 with ⟨d1, rfl, d2⟩ | ⟨d1, rfl, d2⟩
    · refine ⟨rfl, ?_⟩
      rw [e2, d2]
      exact h2.next.trans h3.next.symm
    · omega
    · omega
    · refine ⟨rfl, ?_⟩
      rw [e2, d2, h2.now, h3.now]
  obtain ⟨rfl, hx⟩ := hx
  exact ⟨Yb, Yb', Yc, Yc', _, h1, b1, c1, hx, b3, b4, c3, c4⟩
end

/-! ### laid, twice -/
theorem BnB.no_map {w0 w : World} {g d s r : Nat} {X : Sto} {R : RSto} {O S : List Nat} {mb : Nat} (h : BnB w0 w g d s r X R O S mb) (hop : X.opened = false) {b : Nat} {M : List (List UInt8 × Value)} (hM : MapAt w b M) : ¬ ft g O S b := by
  intro hb
  rcases hb with rfl | hb | hb | hb
  · exact hM.not_blk h.bn.bench
  · simp [Value.ownBlock] at hb
  · obtain ⟨t, cs, hk⟩ := h.bn.sto.blk_own hop b hb
    exact hM.not_blk hk
  · obtain ⟨t, cs, hk, _⟩ := h.bn.ref.own b hb
    exact hM.not_blk hk
set_option maxRecDepth 100000 in
set_option maxHeartbeats 4000000 in
theorem laid_named {n : Nat} {w0 : World} (w : World) (h1 : 4 ≤ n) (h2 : n ≤ 1024) (hw : w0.heap.size ≤ w.heap.size) (hk : Below w0.heap.size w0 w) :
    Calls Tryz.prog 11 #[.int .i64 (n : Int)] w fun e w' => ∃ g d s r, e = .returned (.tuple #[.pointer (some ⟨g, 0, none⟩), .bool true]) ∧ ∃ O S mb, BnB w0 w' g d s r (Joint.new (Dsk.new n).sto n).sto (Joint.new (Dsk.new n).sto n).ref O S mb ∧ (∀ k, ft g O S k → w.heap.size ≤ k) ∧ Below w.heap.size w w' := by
  have HN := Lib.hid (new_made (P := (w0.heap.size ≤ ·)) (n := n) w h1 h2 (fun k hk => Nat.le_trans hw hk))
  have HX := Lib.hid (NewSto.made (n := n) h1)
  have HW := Lib.hid hw
  have HK := Lib.hid hk
  clear hw hk h1 h2
  go_enter Tryz.func11, Tryz.ntmps11
  go_wp2_with (first
    | (go_at_call 48; refine HN.out.mono ?_; rintro e w1 ⟨rfl, hb1, hF1⟩; have HF1 := Lib.hid hF1; clear hb1 hF1)
    | (go_at_call 43; refine HF1.out.mono ?_; rintro e w2 ⟨s, rfl, hB2⟩; have HB2 := Lib.hid hB2; clear hB2)
    | (go_at_call 44; refine (refFormat2 n _).mono ?_; rintro e w3 ⟨rfl, hr3, hb3⟩; have HR3 := Lib.hid hr3; have HB3 := Lib.hid hb3; clear hr3 hb3))
  go_ret2
  have hbel : Below w3.heap.size w3 (w3.alloc (.cells #[.pointer (some ⟨w.heap.size, 0, none⟩), .pointer (some ⟨s, 0, none⟩), .pointer (some ⟨w2.heap.size, 0, none⟩), .slice none 0 0] 39)) := (Below.refl _ _).alloc (Nat.le_refl _) _
  have hbox := (HB2.out.below HB3.out).below hbel
  have hsz2 : w.heap.size ≤ w2.heap.size := HB2.out.1
  have hsz3 := HB3.out.size
  obtain ⟨b1, b2, O, b3, b4⟩ := hbox
  obtain ⟨Q, hQ⟩ := b3.n_
  have hq0 : Q = [] := List.eq_nil_of_length_eq_zero (by rw [hQ.qlen, HX.out.pins]; rfl)
  subst hq0
  obtain ⟨mb, hmb⟩ := hQ.b_
  have hwb : Below w.heap.size w (w3.alloc (.cells #[.pointer (some ⟨w.heap.size, 0, none⟩), .pointer (some ⟨s, 0, none⟩), .pointer (some ⟨w2.heap.size, 0, none⟩), .slice none 0 0] 39)) := b2
  refine ⟨_, w.heap.size, s, w2.heap.size, rfl, O, [w2.heap.size], mb, ⟨?_, ?_⟩, fun k hk => ?_, hwb⟩
  · rw [HX.out.joint, Joint.new_ref]
    refine ⟨Nat.le_trans HW.out b1, HK.out.trans (hwb.mono HW.out), hQ, List.nodup_nil, fun q hq => by simp at hq, HR3.out.below hbel, Blk.new w3 _ _, ⟨rfl, .inl ⟨rfl, rfl⟩⟩, fun k hk => by simp [Value.ownBlock] at hk, fun k hk => Nat.le_trans HW.out (b4 k hk), fun k hk => ?_, ?_⟩
    · have hk : k = w2.heap.size := by simpa using hk
      have := HW.out
      omega
    · have := HW.out
      omega
  · rw [HX.out.joint]
    exact hmb
  · rcases hk with rfl | hk | hk | hk
    · omega
    · simp [Value.ownBlock] at hk
    · exact b4 k hk
    · have hk : k = w2.heap.size := by simpa using hk
      omega

abbrev fresh60 : Joint := Joint.new (Dsk.new 60).sto 60
/-- One bench is laid, then another. -/
theorem duo_laid {w0 w1 w2 : World} {gb db sb rb gc dc sc rc : Nat} {Ob Sb Oc Sc : List Nat} {mb mc : Nat} (h1 : BnB w0 w1 gb db sb rb fresh60.sto fresh60.ref Ob Sb mb) (h2 : BnB w0 w2 gc dc sc rc fresh60.sto fresh60.ref Oc Sc mc) (hn : ∀ k, ft gc Oc Sc k → w1.heap.size ≤ k) (hb : Below w1.heap.size w1 w2) :
    Duo w0 w2 gb db sb rb fresh60.sto fresh60.ref gc dc sc rc fresh60.sto fresh60.ref := by
  refine ⟨Ob, Sb, mb, Oc, Sc, mc, h1.below hb, h2, fun k hk e => ?_, fun e => ?_, ?_⟩
  · have := h1.bn.ft_lt k hk
    have := hn k e
    omega
  · have := h1.sb.lt_
    have := hn _ e
    omega
  · obtain ⟨M, hM⟩ := h2.sb.map
    exact (h1.below hb).no_map rfl hM
theorem duo_begin {w0 w : World} {gb db sb rb gc dc sc rc : Nat} {Yc : Joint} (h : Duo w0 w gb db sb rb fresh60.sto fresh60.ref gc dc sc rc Yc.sto Yc.ref) (kd : Nat) (key : ByteArray) (n y : Nat) (hkd : (kd : Int) % 9 = 0) :
    Calls Tryz.prog 13 #[.pointer (some ⟨gb, 0, none⟩), .agg (opCells kd key n y)] w fun e w' => e = .returned (.bool true) ∧ Duo w0 w' gb db sb rb fresh60.begin_.sto fresh60.begin_.ref gc dc sc rc Yc.sto Yc.ref :=
  h.call (E := fun e => e = .returned (.bool true)) fun O S mb hB => dob_begin hB (NewSto.okJ (NewSto.made (n := 60) (by omega)) (by omega) (by omega)) rfl kd key n y hkd
theorem note60_of {X : Sto} (h : NewSto X 60) : Note60 0 (Joint.new X 60).begin_ [] [] :=
  Note60.begin (h.okJ (by omega) (by omega)) h.up.armed rfl rfl rfl
theorem fresh60_note : Note60 0 fresh60.begin_ [] [] := note60_of (NewSto.made (n := 60) (by omega))

end Go.Proofs.YtbgiklkpinflaaaGreat
