/- StoreLast: the walk. -/
import Derived.Test.YtbgiklkpinflaaaGreatLastD
namespace Go.Proofs.YtbgiklkpinflaaaGreat
open Go.RowKit Go.Shelf Go.Maps
attribute [local go_sem ↓] Go.wp_at_zero Go.wp_at_succ

/-- The k-th call of a list that came in, as data. -/
def OpCells (w : World) (gb go k : Nat) (x : ByteArray × Nat × Nat) : Prop :=
  (∃ kd : Nat, w.cell? ⟨gb, go + k * 4, none⟩ = some (.int .u8 (kd : Int))) ∧ w.cell? ⟨gb, go + k * 4 + 1, none⟩ = some (.string x.1) ∧ w.cell? ⟨gb, go + k * 4 + 2, none⟩ = some (.int .u16 (x.2.1 : Int)) ∧ w.cell? ⟨gb, go + k * 4 + 3, none⟩ = some (.int .u8 (x.2.2 : Int)) ∧ x.1.size ≤ maxLen ∧ x.2.1 ≤ 65535 ∧ x.2.2 ≤ 255
theorem OpCells.below {w w' : World} {gb go k : Nat} {x : ByteArray × Nat × Nat} (h : OpCells w gb go k x) (hb : Below w.heap.size w w') : OpCells w' gb go k x := by
  obtain ⟨⟨kd, h0⟩, h1, h2, h3, h4⟩ := h
  exact ⟨⟨kd, (hb.cell (World.block_lt_of_cell? w _ h0)).trans h0⟩, (hb.cell (World.block_lt_of_cell? w _ h1)).trans h1, (hb.cell (World.block_lt_of_cell? w _ h2)).trans h2, (hb.cell (World.block_lt_of_cell? w _ h3)).trans h3, h4⟩
theorem OpArg.list {w : World} {A : Option Addr} {n : Nat} (h : OpArg w A n) : ∃ L : List (ByteArray × Nat × Nat), L.length = n ∧ ∀ (k : Nat) (hk : k < L.length), ∃ gb go, A = some ⟨gb, go, none⟩ ∧ OpCells w gb go k L[k] := by
  have hx : ∀ k : Fin n, ∃ x : ByteArray × Nat × Nat, ∃ gb go, A = some ⟨gb, go, none⟩ ∧ OpCells w gb go k.1 x := fun k => by
    obtain ⟨gb, go, hA, kd, key, n, y, h0, h1, h2, h3, h4, h5, h6⟩ := h.2 k.1 k.2
    exact ⟨(key, n, y), gb, go, hA, ⟨kd, h0⟩, h1, h2, h3, h4, h5, h6⟩
  refine ⟨List.ofFn fun k => (hx k).choose, by simp, fun k hk => ?_⟩
  rw [List.getElem_ofFn]
  exact (hx ⟨k, by simpa using hk⟩).choose_spec
/-- The note of a call. -/
abbrev noteOf (x : ByteArray × Nat × Nat) : ByteArray × List UInt8 := (x.1, valueOf x.2.1 x.2.2)
theorem notes_take {L : List (ByteArray × Nat × Nat)} {k : Nat} (hk : k < L.length) : ((L.take (k + 1)).map noteOf).foldl noteStep [] = noteStep (((L.take k).map noteOf).foldl noteStep []) (noteOf L[k]) := by
  rw [List.take_succ_eq_append_getElem hk, List.map_append, List.foldl_append]
  rfl
theorem back_drop {L : List (ByteArray × Nat × Nat)} {k : Nat} (hk : k < L.length) : backNotes ((L.drop k).map noteOf) = if known (noteOf L[k]) ((L.drop (k + 1)).map noteOf) then backNotes ((L.drop (k + 1)).map noteOf) else noteStep (backNotes ((L.drop (k + 1)).map noteOf)) (noteOf L[k]) := by
  rw [List.drop_eq_getElem_cons hk]
  rfl
/-- Whether a key is known, from a part of the later notes. -/
def knownUp (L : List (ByteArray × Nat × Nat)) (k j : Nat) (key : ByteArray) : Bool := !goodKey key || ((L.drop (k + 1)).take j).any fun x => decide (x.1 = key)
theorem knownUp_zero (L : List (ByteArray × Nat × Nat)) (k : Nat) (key : ByteArray) : knownUp L k 0 key = !goodKey key := by simp [knownUp]
theorem knownUp_succ {L : List (ByteArray × Nat × Nat)} {k j : Nat} (h : k + 1 + j < L.length) (key : ByteArray) : knownUp L k (j + 1) key = (knownUp L k j key || decide (L[k + 1 + j].1 = key)) := by
  have hj : j < (L.drop (k + 1)).length := by rw [List.length_drop]; omega
  unfold knownUp
  rw [List.take_succ_eq_append_getElem hj, List.any_append, List.getElem_drop]
  simp [Bool.or_assoc]
theorem knownUp_all {L : List (ByteArray × Nat × Nat)} {k : Nat} (key : ByteArray × Nat × Nat) : knownUp L k (L.length - (k + 1)) key.1 = known (noteOf key) ((L.drop (k + 1)).map noteOf) := by
  unfold knownUp known
  rw [List.take_of_length_le (by rw [List.length_drop]; exact Nat.le_refl _), List.any_map]
  rfl

theorem Duo.commitS {w0 w : World} {gb db sb rb gc dc sc rc f : Nat} {Xb Xb' Xc : Sto} {Rb Rc : RSto} {code : Int} (h : Duo w0 w gb db sb rb Xb Rb gc dc sc rc Xc Rc) (hc : SCallB w0 gb db sb rb Xb f #[] code Xb') :
    Calls Tryz.prog f #[.pointer (some ⟨sb, 0, none⟩)] w fun e w' => e = .returned (.int .i64 code) ∧ Duo w0 w' gb db sb rb Xb' Rb gc dc sc rc Xc Rc :=
  h.call (E := fun e => e = .returned (.int .i64 code)) fun O S mb hB => hc _ _ _ _ _ hB
theorem Duo.commitR {w0 w : World} {gb db sb rb gc dc sc rc f : Nat} {Xb Xc : Sto} {Rb Rb' Rc : RSto} {code : Int} (h : Duo w0 w gb db sb rb Xb Rb gc dc sc rc Xc Rc) (hc : RCallB w0 gb db sb rb Rb f #[] code Rb') :
    Calls Tryz.prog f #[.pointer (some ⟨rb, 0, none⟩)] w fun e w' => e = .returned (.int .i64 code) ∧ Duo w0 w' gb db sb rb Xb Rb' gc dc sc rc Xc Rc :=
  h.call (E := fun e => e = .returned (.int .i64 code)) fun O S mb hB => hc _ _ _ _ _ hB
/-- What the end of the law needs, behind the commits. -/
structure Final (w0 : World) (gb db sb rb gc dc sc rc : Nat) (Yb Yc : Joint) (m : Nat) (w : World) : Prop where
  duo : Duo w0 w gb db sb rb Yb.sto Yb.ref gc dc sc rc Yc.sto Yc.ref
  okb : Ok m Yb
  okc : Ok m Yc
  same : Yb.ref.now.ents.map kvOf = Yc.ref.now.ents.map kvOf
section
variable {w0 w w' : World} {gb db sb rb gc dc sc rc m : Nat} {Yb Yc : Joint}
theorem Final.fitsB (h : Final w0 gb db sb rb gc dc sc rc Yb Yc m w) : Calls Tryz.prog 24 #[.pointer (some ⟨gb, 0, none⟩)] w fun e w' => e = .returned (.bool true) ∧ Below w.heap.size w w' := by
  obtain ⟨Ob, Sb, mb, Oc, Sc, mc, h1, h2, _⟩ := h.duo
  exact fits_calls h1.bn h.okb
theorem Final.fitsC (h : Final w0 gb db sb rb gc dc sc rc Yb Yc m w) : Calls Tryz.prog 24 #[.pointer (some ⟨gc, 0, none⟩)] w fun e w' => e = .returned (.bool true) ∧ Below w.heap.size w w' := by
  obtain ⟨Ob, Sb, mb, Oc, Sc, mc, h1, h2, _⟩ := h.duo
  exact fits_calls h2.bn h.okc
theorem Final.below (h : Final w0 gb db sb rb gc dc sc rc Yb Yc m w) (hb : Below w.heap.size w w') : Final w0 gb db sb rb gc dc sc rc Yb Yc m w' := ⟨h.duo.below hb, h.okb, h.okc, h.same⟩
/-- The states that are compared. -/
theorem Final.nows (h : Final w0 gb db sb rb gc dc sc rc Yb Yc m w) : ∃ (g1 g2 : Nat) (v1 v2 : Value), (∀ wx, Below w.heap.size w wx → wx.cell? ⟨rb, 1, none⟩ = some (.int .i64 (g1 : Int)) ∧ wx.cell? ⟨rb, 2, none⟩ = some v1 ∧ wx.cell? ⟨rc, 1, none⟩ = some (.int .i64 (g2 : Int)) ∧ wx.cell? ⟨rc, 2, none⟩ = some v2) ∧
    (∃ A1 n1 c1, v1 = .slice A1 n1 c1) ∧ (∃ A2 n2 c2, v2 = .slice A2 n2 c2) ∧
    ∀ wx, Below w.heap.size w wx → Calls Tryz.prog 23 #[.agg #[.int .i64 (g1 : Int), v1], .agg #[.int .i64 (g2 : Int), v2]] wx fun e w' => e = .returned (.bool true) ∧ Below wx.heap.size wx w' := by
  obtain ⟨Ob, Sb, mb, Oc, Sc, mc, h1, h2, _⟩ := h.duo
  obtain ⟨nv1, xv1, pv1, qs1, hr1, _⟩ := h1.bn.ref
  obtain ⟨nv2, xv2, pv2, qs2, hr2, _⟩ := h2.bn.ref
  obtain ⟨A1, c1, e1⟩ := hr1.now.slice
  obtain ⟨A2, c2, e2⟩ := hr2.now.slice
  refine ⟨Yb.ref.now.gen, Yc.ref.now.gen, nv1, nv2, fun wx hb => ?_, ⟨_, _, _, e1⟩, ⟨_, _, _, e2⟩, fun wx hb => sameR_calls _ _ (hr1.now.below hb) (hr2.now.below hb) h.okb.refOk.now h.same⟩
  have b1 := hr1.blk.below hb hr1.blk.lt
  have b2 := hr2.blk.below hb hr2.blk.lt
  exact ⟨b1.cell 1, b1.cell 2, b2.cell 1, b2.cell 2⟩
end

set_option maxRecDepth 100000 in
set_option maxHeartbeats 8000000 in
theorem last_big (w : World) (A : Option Addr) (n c : Nat) (hbig : 12 < n) (hm : n ≤ maxLen) :
    Calls Tryz.prog 4 #[.slice A n c] w fun e w' => e = .returned (.bool true) ∧ Below w.heap.size w w' := by
  have HL := Lib.hid (laid_named (n := 60) (w0 := w) w (by omega) (by omega) (Nat.le_refl _) (Below.refl _ _))
  have HL2 : Hid (∀ w1, Below w.heap.size w w1 → _) := Lib.hid fun w1 (hb : Below w.heap.size w w1) => laid_named (n := 60) (w0 := w) w1 (by omega) (by omega) hb.size hb
  have t1 : decide ((12 : Int) < n) = true := by simp; omega
  unfold maxLen at hm
  clear hbig
  go_enter Tryz.func4, Tryz.ntmps4
  go_wp2_with (first
    | (go_at_call 12; refine (awake_calls _).mono ?_; rintro e w4 ⟨rfl, hb4⟩; have HB4 := Lib.hid hb4; clear hb4)
    | (go_at_call 11; refine (HL2.out _ HB1.out).mono ?_; rintro e w2 ⟨gc, dc, sc, rc, rfl, Oc, Sc, mc, hc, hn, hb2⟩; have HB2 := Lib.hid hb2; clear hc hn hb2)
    | (go_at_call 11; refine HL.out.mono ?_; rintro e w1 ⟨gb, db, sb, rb, rfl, Ob, Sb, mb, hb, hn, hb1⟩; have HB1 := Lib.hid hb1; clear hb hn hb1))
  go_ret
  exact ⟨rfl, (HB1.out.trans (HB2.out.mono HB1.out.size)).trans (HB4.out.mono (Nat.le_trans HB1.out.size HB2.out.size))⟩

set_option maxRecDepth 100000 in
set_option maxHeartbeats 16000000 in
theorem last_small (w : World) (A : Option Addr) (n c : Nat) (hn : n ≤ 12) (hA : OpArg w A n) (hcap : n ≤ c) :
    Calls Tryz.prog 4 #[.slice A n c] w fun e w' => e = .returned (.bool true) ∧ Below w.heap.size w w' := by
  have HL := Lib.hid (laid_named (n := 60) (w0 := w) w (by omega) (by omega) (Nat.le_refl _) (Below.refl _ _))
  have HL2 : Hid (∀ w1, Below w.heap.size w w1 → _) := Lib.hid fun w1 (hb : Below w.heap.size w w1) => laid_named (n := 60) (w0 := w) w1 (by omega) (by omega) hb.size hb
  have t1 : decide ((12 : Int) < n) = false := by simp; omega
  obtain ⟨L, hL, hcells⟩ := hA.list
  have HC := Lib.hid hcells
  have HLEN := Lib.hid hL
  clear hA hcells hL
  go_enter Tryz.func4, Tryz.ntmps4
  go_wp2_with (first
    | (go_at_call 13; refine (duo_begin (Yc := fresh60.begin_) HD3.out.swap 0 ByteArray.empty 0 0 (by decide)).mono ?_; rintro e w4 ⟨rfl, hd4⟩; have HD4 := Lib.hid hd4.swap; clear hd4)
    | (go_at_call 13; refine (duo_begin (Yc := fresh60) HD2.out 0 ByteArray.empty 0 0 (by decide)).mono ?_; rintro e w3 ⟨rfl, hd3⟩; have HD3 := Lib.hid hd3; clear hd3)
    | (go_at_call 11; refine (HL2.out _ HB1.out.bn.kept).mono ?_; rintro e w2 ⟨gc, dc, sc, rc, rfl, Oc, Sc, mc, hc, hn2, hb2⟩; have HD2 := Lib.hid (duo_laid HB1.out hc hn2 hb2); clear hc hn2 hb2)
    | (go_at_call 11; refine HL.out.mono ?_; rintro e w1 ⟨gb, db, sb, rb, rfl, Ob, Sb, mb, hb, hn1, hb1⟩; have HB1 := Lib.hid hb; clear hb hn1 hb1))
  have HP0 : Hid (Pair w gb db sb rb gc dc sc rc 0 [] [] w4) := ⟨_, _, _, _, HD4.out, fresh60_note, fresh60_note⟩
  go_loopw [54] (fun x wr => ∃ k : Nat, k ≤ n ∧ x = .int .i64 k ∧ Pair w gb db sb rb gc dc sc rc k (((L.take k).map noteOf).foldl noteStep []) [] wr) (fun x _ => n - (intOf x).toNat)
  case atStart => exact ⟨0, Nat.zero_le _, rfl, HP0.out⟩
  case round =>
    obtain ⟨k, hk, rfl, hM⟩ := hrel
    by_cases hlt : k < n
    · have tk : decide ((k : Int) < (n : Int)) = true := by simp; omega
      have hltL : k < L.length := by rw [HLEN.out]; exact hlt
      obtain ⟨ga, go, rfl, hrow⟩ := HC.out k hltL
      obtain ⟨⟨kd, q0⟩, q1, q2, q3, hks, hqn, hy⟩ := hrow.below hM.kept
      have HT := Lib.hid (notes_take hltL)
      obtain ⟨x, hx⟩ : ∃ x, x = L[k] := ⟨_, rfl⟩
      rw [← hx] at q1 q2 q3 hks hqn hy HT
      obtain ⟨key, qn, y⟩ := x
      simp only at q1 q2 q3 hks hqn hy
      have hB : Below wr.heap.size wr (wr.alloc (.cells #[.int .u8 1, .string key, .int .u16 (qn : Int), .int .u8 (y : Int)] 29)) := (Below.refl _ wr).alloc (Nat.le_refl _) _
      have HM := Lib.hid (hM.below hB)
      clear hM hrow hx hB
      go_wp2_with (go_at_call 13; refine (HM.out.put (by omega) 1 key qn y hqn hy (by decide)).mono ?_; rintro e w5 ⟨rfl, hp5⟩; have HP5 := Lib.hid hp5; clear hp5)
      go_roundw
      case rel => exact ⟨k + 1, by omega, by go_num, by rw [HT.out]; exact HP5.out⟩
      case measure => simp [intOf]; omega
    · obtain rfl : k = n := by omega
      have tk : decide ((k : Int) < (k : Int)) = false := by simp
      have hfull : ((L.take k).map noteOf).foldl noteStep [] = backNotes (L.map noteOf) := by rw [List.take_of_length_le (by rw [HLEN.out]; exact Nat.le_refl _), notes_back]
      rw [hfull] at hM
      have HM := Lib.hid hM
      clear hM hfull
      go_wp2
      go_loopw [9] (fun x wr => ∃ i : Nat, i ≤ k ∧ x = .int .i64 ((i : Int) - 1) ∧ Pair w gb db sb rb gc dc sc rc (k + (k - i)) (backNotes (L.map noteOf)) (backNotes ((L.drop i).map noteOf)) wr) (fun x _ => (intOf x + 1).toNat)
      case atStart =>
        refine ⟨k, Nat.le_refl _, rfl, ?_⟩
        rw [List.drop_of_length_le (by rw [HLEN.out]; exact Nat.le_refl _)]
        exact HM.out.mono (by omega) (by omega)
      case round =>
        obtain ⟨i, hi, rfl, hM⟩ := hrel
        cases i with
        | zero =>
          have tz : decide ((0 : Int) ≤ ((0 : Nat) : Int) - 1) = false := by decide
          rw [List.drop_zero] at hM
          have hMd := hM.below ((Below.refl _ wr).drewN_ 1)
          obtain ⟨Yb, Yb', Yc, Yc', code, hd, hob, hoc, heq, hsb, hrb, hsc, hrc⟩ := hMd.commits (by omega)
          have HD := Lib.hid hd
          have HSb := Lib.hid hsb
          have HRb := Lib.hid hrb
          have HSc := Lib.hid hsc
          have HRc := Lib.hid hrc
          have HOB := Lib.hid hob
          have HOC := Lib.hid hoc
          have HEQ := Lib.hid heq
          obtain ⟨x1, x2, x3, x4⟩ : wr.cell? ⟨gb, 1, none⟩ = some (.pointer (some ⟨sb, 0, none⟩)) ∧ wr.cell? ⟨gb, 2, none⟩ = some (.pointer (some ⟨rb, 0, none⟩)) ∧ wr.cell? ⟨gc, 1, none⟩ = some (.pointer (some ⟨sc, 0, none⟩)) ∧ wr.cell? ⟨gc, 2, none⟩ = some (.pointer (some ⟨rc, 0, none⟩)) := by
            obtain ⟨_, _, _, _, hdw, _⟩ := hM
            exact hdw.cells
          have hcc : (code != code) = false := by simp
          clear hM hMd hd hsb hrb hsc hrc hob hoc heq
          go_wp2
          go_region_held3 (fun w' => w'.cell? ⟨gb, 1, none⟩ = some (.pointer (some ⟨sb, 0, none⟩)) ∧ w'.cell? ⟨gc, 1, none⟩ = some (.pointer (some ⟨sc, 0, none⟩))) (go_keep)
            ((first
              | (go_at_call 21; refine (HD5.out.swap.commitS HSc.out).mono ?_; rintro e w6 ⟨rfl, hd6⟩; have HD6 := Lib.hid hd6.swap; obtain ⟨z3, z4, z1, z2⟩ := hd6.cells; clear hd6)
              | (go_at_call 21; refine (HD.out.commitS HSb.out).mono ?_; rintro e w5 ⟨rfl, hd5⟩; have HD5 := Lib.hid hd5; obtain ⟨y1, y2, y3, y4⟩ := hd5.cells; clear hd5)))
          all_goals
            go_wp2_with (first
              | (go_at_call 22; refine (HD7.out.swap.commitR HRc.out).mono ?_; rintro e w8 ⟨rfl, hd8⟩; have HF8 : Hid (Final w gb db sb rb gc dc sc rc Yb' Yc' _ w8) := ⟨hd8.swap, HOB.out, HOC.out, HEQ.out⟩; obtain ⟨v3, v4, v1, v2⟩ := hd8.cells; clear hd8)
              | (go_at_call 22; refine (HD6.out.commitR HRb.out).mono ?_; rintro e w7 ⟨rfl, hd7⟩; have HD7 := Lib.hid hd7; obtain ⟨u1, u2, u3, u4⟩ := hd7.cells; clear hd7))
            have HFd := Lib.hid (HF8.out.below ((Below.refl _ w8).drewN_ 1))
            have hb8 : Hid (∀ wx, Below w8.heap.size w8 wx → wx.cell? ⟨gb, 2, none⟩ = some (.pointer (some ⟨rb, 0, none⟩)) ∧ wx.cell? ⟨gc, 2, none⟩ = some (.pointer (some ⟨rc, 0, none⟩))) := fun wx hb => by
              obtain ⟨_, h2, _, h4⟩ := (HF8.out.below hb).duo.cells
              exact ⟨h2, h4⟩
            obtain ⟨g1, g2, nv1, nv2, hcells, ⟨A1, n1, c1, rfl⟩, ⟨A2, n2, c2, rfl⟩, hsame⟩ := HF8.out.nows
            have HCE := Lib.hid hcells
            have HSA := Lib.hid hsame
            obtain ⟨k1, k2, k3, k4⟩ := hcells _ (Below.refl _ _)
            clear hcells hsame
            go_region_held3 (fun w' => w'.cell? ⟨gb, 2, none⟩ = some (.pointer (some ⟨rb, 0, none⟩)) ∧ w'.cell? ⟨gc, 2, none⟩ = some (.pointer (some ⟨rc, 0, none⟩)) ∧ w'.cell? ⟨rb, 1, none⟩ = some (.int .i64 (g1 : Int)) ∧ w'.cell? ⟨rb, 2, none⟩ = some (.slice A1 n1 c1) ∧ w'.cell? ⟨rc, 1, none⟩ = some (.int .i64 (g2 : Int)) ∧ w'.cell? ⟨rc, 2, none⟩ = some (.slice A2 n2 c2)) (go_keep)
              ((first
                | (go_at_call 12; refine (awake_calls _).mono ?_; rintro e wd ⟨rfl, hbd⟩; have HBD : Hid (Below w8.heap.size w8 wd) := HBC.out.trans (hbd.mono HBC.out.size); obtain ⟨d1, d2⟩ := hb8.out _ HBD.out; obtain ⟨d3, d4, d5, d6⟩ := HCE.out _ HBD.out; clear hbd)
                | (go_at_call 24; refine ((HF8.out.below HBB.out).fitsC).mono ?_; rintro e wc ⟨rfl, hbc⟩; have HBC : Hid (Below w8.heap.size w8 wc) := HBB.out.trans (hbc.mono HBB.out.size); obtain ⟨c1', c2'⟩ := hb8.out _ HBC.out; obtain ⟨c3, c4, c5, c6⟩ := HCE.out _ HBC.out; clear hbc)
                | (go_at_call 24; refine ((HF8.out.below HBA.out).fitsB).mono ?_; rintro e wb ⟨rfl, hbb⟩; have HBB : Hid (Below w8.heap.size w8 wb) := HBA.out.trans (hbb.mono HBA.out.size); obtain ⟨b1, b2⟩ := hb8.out _ HBB.out; obtain ⟨b3, b4, b5, b6⟩ := HCE.out _ HBB.out; clear hbb)
                | (go_at_call 23; refine (HSA.out _ ((Below.refl _ _).drewN_ 1)).mono ?_; rintro e wa ⟨rfl, hba⟩; have HBA : Hid (Below w8.heap.size w8 wa) := ((Below.refl _ w8).drewN_ 1).trans (hba.mono (by simp)); obtain ⟨a1, a2⟩ := hb8.out _ HBA.out; obtain ⟨a3, a4, a5, a6⟩ := HCE.out _ HBA.out; clear hba)))
            all_goals
              go_wp2
              go_ret
              exact ⟨rfl, HF8.out.duo.kept.trans (HBD.out.mono HF8.out.duo.kept.size)⟩
        | succ i =>
          have ei : ((i + 1 : Nat) : Int) - 1 = (i : Int) := by omega
          rw [ei]
          have tz : decide ((0 : Int) ≤ (i : Int)) = true := by simp
          have hiL : i < L.length := by rw [HLEN.out]; omega
          obtain ⟨ga, go, rfl, hrow⟩ := HC.out i hiL
          obtain ⟨⟨kd, q0⟩, q1, q2, q3, hks, hqn, hy⟩ := hrow.below hM.kept
          have hlater : Hid (∀ j, j < k - (i + 1) → ∃ (kd' : Nat) (x' : ByteArray × Nat × Nat), L[i + 1 + j]? = some x' ∧ ∀ wx, Below w.heap.size w wx → wx.cell? ⟨ga, go + (i + 1) * 4 + j * 4, none⟩ = some (.int .u8 (kd' : Int)) ∧ wx.cell? ⟨ga, go + (i + 1) * 4 + j * 4 + 1, none⟩ = some (.string x'.1) ∧ wx.cell? ⟨ga, go + (i + 1) * 4 + j * 4 + 2, none⟩ = some (.int .u16 (x'.2.1 : Int)) ∧ wx.cell? ⟨ga, go + (i + 1) * 4 + j * 4 + 3, none⟩ = some (.int .u8 (x'.2.2 : Int))) := fun j hj => by
            have hjL : i + 1 + j < L.length := by rw [HLEN.out]; omega
            obtain ⟨gb', go', hA', hr⟩ := HC.out (i + 1 + j) hjL
            simp only [Option.some.injEq, Addr.mk.injEq] at hA'
            obtain ⟨rfl, rfl, _⟩ := hA'
            have e4 : go + (i + 1 + j) * 4 = go + (i + 1) * 4 + j * 4 := by omega
            obtain ⟨kd', h0⟩ := hr.1
            refine ⟨kd', L[i + 1 + j], List.getElem?_eq_getElem hjL, fun wx hb => ?_⟩
            obtain ⟨⟨kd2, r0⟩, r1, r2, r3, _⟩ := hr.below hb
            rw [e4] at r0 r1 r2 r3 h0
            have : kd2 = kd' := by
              have h1 := (hb.cell (World.block_lt_of_cell? w _ h0)).trans h0
              rw [r0] at h1
              have h2 : (kd2 : Int) = (kd' : Int) := by simpa using h1
              omega
            subst this
            exact ⟨r0, r1, r2, r3⟩
          have HBK := Lib.hid (back_drop hiL)
          have hka := knownUp_all (L := L) (k := i) L[i]
          have hk0 := knownUp_zero L i L[i].1
          obtain ⟨x, hx⟩ : ∃ x, x = L[i] := ⟨_, rfl⟩
          rw [← hx] at q1 q2 q3 hks hqn hy HBK hka hk0
          obtain ⟨key, qn, y⟩ := x
          simp only at q1 q2 q3 hks hqn hy hk0
          rw [HLEN.out] at hka
          have HKA := Lib.hid hka
          have HK0 := Lib.hid hk0
          have HM1 := Lib.hid hM
          have hrow2 : ∀ wx, Below w.heap.size w wx → (∃ kd : Nat, wx.cell? ⟨ga, go + i * 4, none⟩ = some (.int .u8 (kd : Int))) ∧ wx.cell? ⟨ga, go + i * 4 + 1, none⟩ = some (.string key) ∧ wx.cell? ⟨ga, go + i * 4 + 2, none⟩ = some (.int .u16 (qn : Int)) ∧ wx.cell? ⟨ga, go + i * 4 + 3, none⟩ = some (.int .u8 (y : Int)) := fun wx hb => by
            have h1 := hrow.below hb
            rw [← hx] at h1
            exact ⟨h1.1, h1.2.1, h1.2.2.1, h1.2.2.2.1⟩
          have HROW := Lib.hid hrow2
          clear hM hrow hx hka hk0 hrow2
          go_upto_region 17 with fail
          go_cut [10] from 71 to 87 (fun v wx => v = .bool (knownUp L i 0 key) ∧ wr = wx)
          case first =>
            by_cases hs0 : key.size = 0
            · have t5 : decide ((key.size : Int) < 1) = true := by simp; omega
              have t6 : knownUp L i 0 key = true := by rw [HK0.out]; unfold goodKey; rw [decide_eq_false (by omega)]; rfl
              have T6 := Lib.hid t6
              clear hs0 t6
              go_wp2
              go_meet
              exact ⟨by rw [T6.out], rfl⟩
            · have t5 : decide ((key.size : Int) < 1) = false := by simp; omega
              by_cases hs1 : 64 < key.size
              · have t5' : decide ((64 : Int) < key.size) = true := by simp; omega
                have t6 : knownUp L i 0 key = true := by rw [HK0.out]; unfold goodKey; rw [decide_eq_false (by omega)]; rfl
                have T6 := Lib.hid t6
                clear hs0 hs1 t6
                go_wp2
                go_meet
                exact ⟨by rw [T6.out], rfl⟩
              · have t5' : decide ((64 : Int) < key.size) = false := by simp; omega
                have t6 : knownUp L i 0 key = false := by rw [HK0.out]; unfold goodKey; rw [decide_eq_true (by omega)]; rfl
                have T6 := Lib.hid t6
                clear hs0 hs1 t6
                go_wp2
                go_meet
                exact ⟨by rw [T6.out], rfl⟩
          case rest =>
            obtain ⟨rfl, rfl⟩ := hcut
            rcases Classical.em (c = i + 1) with rfl | hce
            all_goals
              go_wp2
              go_loopw [10, 92] (fun t x wz => ∃ j : Nat, j ≤ k - (i + 1) ∧ x = .int .i64 j ∧ t = .bool (knownUp L i j key) ∧ Pair w gb db sb rb gc dc sc rc (k + (k - (i + 1))) (backNotes (L.map noteOf)) (backNotes ((L.drop (i + 1)).map noteOf)) wz) (fun _ x _ => k - (i + 1) - (intOf x).toNat)
              case atStart => exact ⟨0, Nat.zero_le _, rfl, rfl, HM1.out⟩
              case round =>
                obtain ⟨j, hj, rfl, rfl, hM⟩ := hrel
                obtain ⟨⟨kd1, q0⟩, q1, q2, q3⟩ := HROW.out _ hM.kept
                by_cases hlt : j < k - (i + 1)
                · have tk : decide ((j : Int) < ((k - (i + 1) : Nat) : Int)) = true := by simp; omega
                  try (exfalso; omega)
                  all_goals
                    obtain ⟨kd', x', hx', hcl⟩ := hlater.out j hlt
                    obtain ⟨r0, r1, r2, r3⟩ := hcl _ hM.kept
                    have hjL : i + 1 + j < L.length := by rw [HLEN.out]; omega
                    have hks1 := knownUp_succ hjL key
                    have e9 : L[i + 1 + j] = x' := (List.getElem?_eq_some_iff.1 hx').2
                    rw [e9] at hks1
                    obtain ⟨key', qn', y'⟩ := x'
                    simp only at r0 r1 r2 r3 hks1
                    have q1a : ∀ o, (wr.alloc o).cell? ⟨ga, go + i * 4 + 1, none⟩ = some (.string key) := fun o => Lib.cell?_alloc_some _ q1
                    have HP2 : Hid (∀ o, Pair w gb db sb rb gc dc sc rc (k + (k - (i + 1))) (backNotes (L.map noteOf)) (backNotes ((L.drop (i + 1)).map noteOf)) (wr.alloc o).drew) := fun o => hM.below ((Below.refl _ wr).alloc (Nat.le_refl _) o).drew_
                    clear hM hx' hcl e9 q0 q2 q3 hjL
                    obtain ⟨kn, hkn⟩ : ∃ kn, kn = knownUp L i j key := ⟨_, rfl⟩
                    rw [← hkn] at hks1 ⊢
                    have HKN := Lib.hid hks1
                    clear hks1 hkn
                    cases kn with
                    | true =>
                      go_wp2
                      go_region
                      go_wp2
                      go_roundw
                      case rel => exact ⟨j + 1, by omega, by go_num, by rw [HKN.out, Bool.true_or], HP2.out _⟩
                      case measure => simp [intOf] <;> omega
                    | false =>
                      by_cases he : key' = key
                      · have te1 : (key'.toList == key.toList) = true := by rw [keq]; simpa using he
                        have te2 : decide (key' = key) = true := by simpa using he
                        have HE := Lib.hid te2
                        clear he
                        go_wp2
                        go_region
                        go_wp2
                        go_roundw
                        case rel => exact ⟨j + 1, by omega, by go_num, by rw [HKN.out, HE.out, Bool.or_true], HP2.out _⟩
                        case measure => simp [intOf] <;> omega
                      · have te1 : (key'.toList == key.toList) = false := by rw [keq]; simpa using he
                        have te2 : decide (key' = key) = false := by simpa using he
                        have HE := Lib.hid te2
                        clear he
                        go_wp2
                        go_region
                        go_wp2
                        go_roundw
                        case rel => exact ⟨j + 1, by omega, by go_num, by rw [HKN.out, HE.out, Bool.or_false], HP2.out _⟩
                        case measure => simp [intOf] <;> omega
                · obtain rfl : j = k - (i + 1) := by omega
                  have tk : decide (((k - (i + 1) : Nat) : Int) < ((k - (i + 1) : Nat) : Int)) = false := by simp
                  rw [HKA.out]
                  have hB : Below wr.heap.size wr (wr.alloc (.cells #[.int .u8 1, .string key, .int .u16 (qn : Int), .int .u8 (y : Int)] 29)) := (Below.refl _ wr).alloc (Nat.le_refl _) _
                  have HM2 := Lib.hid (hM.below hB)
                  have hmk : k + (k - (i + 1)) + 1 = k + (k - i) := by omega
                  have HMK := Lib.hid hmk
                  obtain ⟨kn, hkn⟩ : ∃ kn, kn = known (noteOf (key, qn, y)) ((L.drop (i + 1)).map noteOf) := ⟨_, rfl⟩
                  have hbd := HBK.out
                  rw [← hkn] at hbd ⊢
                  have HBD := Lib.hid hbd
                  clear hM hB hkn hbd hmk
                  cases kn with
                  | true =>
                    go_wp2
                    refine ⟨⟨i, by omega, by go_num, ?_⟩, by simp [intOf] <;> omega⟩
                    try rw [← List.map_drop]
                    rw [HBD.out, ← HMK.out]
                    simp only [if_true, ↓reduceIte]
                    exact HM2.out.mono (Nat.le_succ _) (by omega)
                  | false =>
                    go_wp2_with (go_at_call 13; refine (HM2.out.swap.put (by omega) 1 key qn y hqn hy (by decide)).mono ?_; rintro e w5 ⟨rfl, hp5⟩; have HP5 := Lib.hid hp5.swap; clear hp5)
                    go_roundw
                    case rel =>
                      refine ⟨i, by omega, by go_num, ?_⟩
                      try rw [← List.map_drop]
                      rw [HBD.out, ← HMK.out]
                      simpa only [if_false, ↓reduceIte, Bool.false_eq_true] using HP5.out
                    case measure => simp [intOf] <;> omega

theorem last_calls (w : World) (A : Option Addr) (n c : Nat) (hA : OpArg w A n) (hcap : n ≤ c) :
    Calls Tryz.prog 4 #[.slice A n c] w fun e w' => e = .returned (.bool true) ∧ Below w.heap.size w w' := by
  by_cases h : 12 < n
  · exact last_big w A n c h hA.1
  · exact last_small w A n c (by omega) hA hcap
end Go.Proofs.YtbgiklkpinflaaaGreat

namespace Go.Proofs.YtbgiklkpinflaaaGreat
open Go.ChangeShapes Go.WideShapes Go.Deep
theorem opCap_of {H : Type} {enc : TypeId × Value → H} {w : World} {held : Bool} {A : Option Addr} {n c : Nat} {d : DataW H} {p : List MemPlace} (h : DataW.Trod enc Tryz.prog w 0 (fun _ => true) held 22 (.slice A n c) d p) : n ≤ c := by
  obtain ⟨fuel, hf⟩ := h
  rcases open_slice_fields Tryz.underlying22 Tryz.underlying29 (by kernel_rfl) (by kernel_rfl) hf with ⟨hcs, _⟩ | ⟨a, len, cap, m, D, Pl, hcs, _, hl, hm, hmm, _, hi⟩
  · simp [Value.cells] at hcs
    obtain ⟨rfl, rfl, rfl⟩ := hcs
    exact Nat.le_refl _
  · simp [Value.cells] at hcs
    obtain ⟨rfl, rfl, rfl⟩ := hcs
    exact hl

end Go.Proofs.YtbgiklkpinflaaaGreat
