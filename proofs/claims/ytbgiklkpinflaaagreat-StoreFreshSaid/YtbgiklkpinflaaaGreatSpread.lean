/- spread. -/
import Derived.Test.YtbgiklkpinflaaaGreatSto1
namespace Go.Proofs.YtbgiklkpinflaaaGreat
open Go.RowKit Go.Shelf
attribute [local go_sem ↓] Go.wp_at_zero Go.wp_at_succ
/-- The bytes v holds; nil where there are none. -/
def Some' (P : Nat → Prop) (w : World) (v : Value) (l : List UInt8) : Prop := (v = .slice none 0 0 ∧ l = []) ∨ BytesAt P w v l
theorem Some'.keeps {P F : Nat → Prop} {w w' : World} {v : Value} {l : List UInt8} (h : Some' P w v l) (k : Keeps F w w') (hF : ∀ g cs, F g → P g → Blk w g 5 cs → False) : Some' P w' v l := h.imp id fun h => h.keeps k hF

def part (l : List UInt8) (i : Nat) : List UInt8 := (l.drop (i * 240)).take 240
theorem part_len (l : List UInt8) (k : Nat) : (part l k).length = min l.length ((k + 1) * 240) - min l.length (k * 240) := by
  simp only [part, List.length_take, List.length_drop]
  omega
/-- What a piece of the bytes is, as a slice of the whole. -/
theorem part_at {P : Nat → Prop} {w : World} {Av : Option Addr} {n cv : Nat} {l : List UInt8} (h : Some' P w (.slice Av n cv) l) (k lo : Nat) (hlo : lo = min l.length (k * 240)) (hk : 0 < l.length → k * 240 < l.length) :
    l.length ≤ cv ∧ (0 < (part l k).length → ∃ g o, Option.map (fun x => x.add lo) Av = some ⟨g, o, none⟩ ∧ Cells w g o ((part l k).map bv)) := by
  rcases h with ⟨hv, rfl⟩ | hB
  · exact ⟨Nat.zero_le _, fun h => by simp [part] at h⟩
  · obtain ⟨g, cap, cur, hv, hle, _, hb, hc⟩ := hB.cells
    cases hv
    refine ⟨hle, fun h0 => ⟨g, lo, ?_, ?_⟩⟩
    · simp [Option.map, Addr.add_lit]
    · have hl0 : 0 < l.length := by
        rcases Nat.eq_zero_or_pos l.length with h | h
        · have : l = [] := List.eq_nil_of_length_eq_zero h
          subst this
          simp [part] at h0
        · exact h
      have hk' := hk hl0
      have e : lo = k * 240 := by omega
      subst e
      intro j u hj
      have hj' : (l.map bv)[k * 240 + j]? = some u := by
        have : (part l k)[j]?.map bv = some u := by simpa using hj
        rw [part, List.getElem?_take] at this
        split at this
        · rw [List.getElem?_drop] at this
          simpa using this
        · cases this
      have := hc _ _ hj'
      rw [Nat.zero_add] at this
      exact this
theorem part_length (l : List UInt8) (i : Nat) : (part l i).length ≤ 240 := by simp [part]; omega
/-- The writes of spread. -/
def spreadList (l : List UInt8) (blocks : List Nat) : List (Nat × List UInt8) := (List.range blocks.length).map fun i => (blocks[i]?.getD 0, blockOf (part l i) (blocks[i + 1]?.getD 0))
theorem spreadList_length (l : List UInt8) (blocks : List Nat) : (spreadList l blocks).length = blocks.length := by simp [spreadList]
theorem spreadList_drop (l : List UInt8) (blocks : List Nat) {i : Nat} (h : i < blocks.length) : (spreadList l blocks).drop i = (blocks[i], blockOf (part l i) (blocks[i + 1]?.getD 0)) :: (spreadList l blocks).drop (i + 1) := by
  rw [List.drop_eq_getElem_cons (by rw [spreadList_length]; exact h)]
  simp [spreadList, h]

/-- i blocks are written. -/
def Spreading (P : Nat → Prop) (w : World) (d : Nat) (S : List Nat) (D : Dsk) (l : List UInt8) (blocks : List Nat) (i : Nat) (wr : World) : Prop :=
  ∃ Di Si, writes ((spreadList l blocks).drop i) Di = writes (spreadList l blocks) D ∧ DiskAt P wr d Di Si ∧ Small Di (blocks.length - i) ∧ (∀ k ∈ Si, k ∈ S ∨ w.heap.size ≤ k) ∧ Keeps (· ∈ S) w wr

theorem DiskAt.no {P : Nat → Prop} {w : World} {b : Nat} {D : Dsk} {S : List Nat} (h : DiskAt P w b D S) {t : TypeId} (h1 : t ≠ 94) (h2 : t ≠ 89) (h3 : t ≠ 138) {g : Nat} {cs : Array Value} (hg : g ∈ S) (hk : Blk w g t cs) : False := by
  obtain ⟨t', cs', hk', ht⟩ := h.lt g hg
  have := (hk.det hk').2
  subst this
  rcases ht with h | h | h
  · exact h1 h
  · exact h2 h
  · exact h3 h

theorem spread_next {P : Nat → Prop} {w wr w2 w3 : World} {d : Nat} {S Si : List Nat} {D Di : Dsk} {l : List UInt8} {blocks : List Nat} {k : Nat} (hlt : k < blocks.length) (hw : writes ((spreadList l blocks).drop k) Di = writes (spreadList l blocks) D) (hsm : Small Di (blocks.length - k)) (hS : ∀ x ∈ Si, x ∈ S ∨ w.heap.size ≤ x) (hk : Keeps (· ∈ S) w wr)
    (hbel : Below wr.drew.heap.size wr.drew w2) (hAf : After P w2 w3 d (Di.write (blocks[k] : Int) (blockOf (part l k) (blocks[k + 1]?.getD 0))).2 Si) :
    ((Di.write (blocks[k] : Int) (blockOf (part l k) (blocks[k + 1]?.getD 0))).1 = 0 → Spreading P w d S D l blocks (k + 1) w3) ∧
    ((Di.write (blocks[k] : Int) (blockOf (part l k) (blocks[k + 1]?.getD 0))).1 ≠ 0 → writes (spreadList l blocks) D = Di.write (blocks[k] : Int) (blockOf (part l k) (blocks[k + 1]?.getD 0)) ∧ After P w w3 d (writes (spreadList l blocks) D).2 S) := by
  have k2 : Keeps (· ∈ S) w w2 := hk.trans (Keeps.of_belowD (F := fun _ => False) hbel) (fun _ _ h => h.elim)
  have hA := After.trans hS k2 hAf
  rw [spreadList_drop l blocks hlt] at hw
  constructor
  · intro hz
    obtain ⟨S2, h1, h2, h3⟩ := hAf
    refine ⟨_, S2, ?_, h1, ?_, fun x hx => ?_, ?_⟩
    · rw [← hw]
      show _ = if _ then _ else _
      rw [if_pos hz]
    · exact Dsk.write_small (hsm.mono (by omega))
    · rcases h2 x hx with h | h
      · exact hS x h
      · exact .inr (Nat.le_trans k2.size h)
    · refine k2.trans h3 fun i hi hg => ?_
      rcases hS i hg with h | h
      · exact h
      · omega
  · intro hz
    have e : writes (spreadList l blocks) D = Di.write (blocks[k] : Int) (blockOf (part l k) (blocks[k + 1]?.getD 0)) := by
      rw [← hw]
      show (if _ then _ else _) = _
      rw [if_neg hz]
    rw [e]
    exact ⟨rfl, hA⟩

set_option maxRecDepth 100000 in
set_option maxHeartbeats 4000000 in
theorem spread_some {P Q : Nat → Prop} {d s : Nat} {D : Dsk} {S : List Nat} (w : World) (hD : DiskAt P w d D S) (cs : Array Value) (hs : Blk w s 100 cs) (hs0 : cs[0]? = some (.pointer (some ⟨d, 0, none⟩)))
    (l : List UInt8) (v : Value) (hv : Some' Q w v l) (hl0 : 0 < l.length) (blocks : List Nat) (bv' : Value) (hb : NumsAt w bv' blocks) (hlen : blocks.length ≤ max 1 ((l.length + 239) / 240)) (hl : l.length ≤ 1000000000) (hbl : ∀ x ∈ blocks, x ≤ 65535) (hsm : Small D blocks.length) :
    Calls Tryz.prog 119 #[.pointer (some ⟨s, 0, none⟩), v, bv'] w fun e w' => e = .returned (.int .i64 (writes (spreadList l blocks) D).1) ∧ After P w w' d (writes (spreadList l blocks) D).2 S := by
  obtain ⟨A, cap, rfl, hcap, hcm, _⟩ := id hb
  obtain ⟨Av, cv, hvv⟩ : ∃ Av cv, v = .slice Av l.length cv := by
    rcases hv with ⟨rfl, rfl⟩ | ⟨g, c, _, rfl, _⟩
    · exact ⟨_, _, rfl⟩
    · exact ⟨_, _, rfl⟩
  subst hvv
  have HB := Lib.hid hb
  have HV := Lib.hid hv
  have HS := Lib.hid hs
  have HL := Lib.hid hlen
  have HBL := Lib.hid hbl
  have HS0 := Lib.hid hs0
  clear hb hv hs hlen hbl hs0
  have hbl9 : blocks.length ≤ 1000000000 := by have := HL.out; omega
  go_enter Tryz.func119, Tryz.ntmps119
  go_wp2
  go_loopw [14] (fun i wr => ∃ k : Nat, k ≤ blocks.length ∧ i = .int .i64 k ∧ Spreading P w d S D l blocks k wr) (fun i _ => blocks.length - (intOf i).toNat)
  case atStart => exact ⟨0, Nat.zero_le _, rfl, D, S, by simp, hD, by simpa using hsm, fun _ h => .inl h, Keeps.refl _ _⟩
  case round =>
    obtain ⟨k, hk, rfl, hI⟩ := hrel
    by_cases hlt : k < blocks.length
    · obtain ⟨Di, Si, hw, hDi, hsmi, hSi, hki⟩ := hI
      have tk : decide ((k : Int) < blocks.length) = true := by simpa using hlt
      obtain ⟨gb, rfl, hcb⟩ := (HB.out.keeps hki (fun g cs hg hk => hD.no (by decide) (by decide) (by decide) hg hk)).cell (by omega)
      have q1 := hcb k hlt
      have HCB := Lib.hid hcb
      clear hcb
      obtain ⟨lo, hlo⟩ : ∃ lo, lo = min l.length (k * 240) := ⟨_, rfl⟩
      obtain ⟨hi, hhi⟩ : ∃ hi, hi = min l.length ((k + 1) * 240) := ⟨_, rfl⟩
      have elo : min ((l.length : Nat) : Int) ((k : Int) * 240) = (lo : Int) := by omega
      have ehi : min ((l.length : Nat) : Int) (((k : Int) + 1) * 240) = (hi : Int) := by omega
      have hkl : 0 < l.length → k * 240 < l.length := by have := HL.out; omega
      obtain ⟨hcv, hpc⟩ := part_at (HV.out.keeps hki (fun g cs hg _ hk => hD.no (by decide) (by decide) (by decide) hg hk)) k lo hlo hkl
      have hpl : hi - lo = (part l k).length := by rw [part_len]; omega
      have b1 : lo ≤ hi := by omega
      have b2 : hi ≤ cv := by omega
      have hne : ¬ cv = lo := by have := hkl hl0; omega
      have HPL := Lib.hid hpl
      have HPC := Lib.hid hpc
      have HSW : Hid (Blk wr s 100 cs) := HS.out.keeps hki (fun hg => hD.no (by decide) (by decide) (by decide) hg HS.out)
      have HDi := Lib.hid hDi
      have hs1 : wr.cell? ⟨s, 0, none⟩ = some (.pointer (some ⟨d, 0, none⟩)) := (HSW.out.cell 0).trans HS0.out
      clear hpl hpc hlo hhi hDi hkl
      have HWR : ∀ (w2 : World) (nx : Nat), Below wr.heap.size wr w2 → BytesAt (wr.heap.size ≤ ·) w2 (.slice (some ⟨wr.heap.size, 0, none⟩) 256 256) (blockOf (part l k) nx) → DiskAt P w2 d Di Si ∧ Handed w2 Si (.slice (some ⟨wr.heap.size, 0, none⟩) 256 256) (blockOf (part l k) nx) := by
        intro w2 nx hbel hB
        refine ⟨HDi.out.below hbel, some ⟨wr.heap.size, 0, none⟩, 256, ?_, fun _ => ⟨wr.heap.size, 0, rfl, ?_, ?_⟩⟩
        · rw [blockOf_length _ _ (by have := part_length l k; omega)]
        · obtain ⟨g, cap, cur, hv, _, _, _, hc⟩ := hB.cells
          injection hv with h1
          injection h1 with h1
          injection h1 with h1
          rw [h1]
          exact hc
        · intro hm
          obtain ⟨t, cs', hb', _⟩ := HDi.out.lt _ hm
          exact Nat.lt_irrefl _ hb'.lt
      have HWRH := Lib.hid HWR
      clear HWR
      have hlife := hsmi.life
      have hpen := hsmi.pen
      by_cases hk1 : k + 1 < blocks.length
      · have tk1 : decide ((k : Int) + 1 < blocks.length) = true := by simp; omega
        have q2 := HCB.out (k + 1) hk1
        by_cases hz : (Di.write (blocks[k] : Int) (blockOf (part l k) blocks[k + 1])).1 = 0
        all_goals
          first
            | have tz : ((Di.write (blocks[k] : Int) (blockOf (part l k) blocks[k + 1])).1 != 0) = false := by simpa using hz
            | have tz : ((Di.write (blocks[k] : Int) (blockOf (part l k) blocks[k + 1])).1 != 0) = true := by simpa using hz
          have HZ := Lib.hid hz
          clear hz
          go_wp2
        all_goals
          go_region_law
            (first
              | (go_simp; go_at_call 75; refine (block_calls _ _ _ (part l k) blocks[k + 1] _ HPL.out (part_length l k) (HBL.out _ (List.getElem_mem _)) ?_).mono ?_; exact HPC.out; rintro e w2 ⟨rfl, hB, hbel⟩; have hs2 : w2.cell? ⟨s, 0, none⟩ = some (.pointer (some ⟨d, 0, none⟩)) := ((HSW.out.belowH hbel rfl HSW.out.lt).cell 0).trans HS0.out)
              | (go_simp; go_at_call 74; refine (write_any w2 (HWRH.out w2 _ ⟨hbel.os, hbel.tape, hbel.output, hbel.size, hbel.block⟩ hB).1 hlife hpen _ _ _ (HWRH.out w2 _ ⟨hbel.os, hbel.tape, hbel.output, hbel.size, hbel.block⟩ hB).2).mono ?_; rintro e w3 ⟨rfl, hAf⟩))
          all_goals
            go_wp2
            have hnx : blocks[k + 1]?.getD 0 = blocks[k + 1] := by simp [hk1]
            have hst := spread_next (P := P) (w3 := w3) hlt hw hsmi hSi hki hbel (by rw [hnx]; exact hAf)
            rw [hnx] at hst
            first
              | exact ⟨⟨k + 1, by omega, by go_num, hst.1 HZ.out⟩, by simp [intOf]; omega⟩
              | (go_ret
                 obtain ⟨e1, e2⟩ := hst.2 HZ.out
                 exact ⟨(congrArg (fun z : Int × Dsk => Ending.returned (Value.int .i64 z.1)) e1).symm, e2⟩)
      · have tk1 : decide ((k : Int) + 1 < blocks.length) = false := by simp; omega
        have hnx : blocks[k + 1]?.getD 0 = 0 := by simp [show ¬ k + 1 < blocks.length from hk1]
        have HNX := Lib.hid hnx
        clear hnx
        by_cases hz : (Di.write (blocks[k] : Int) (blockOf (part l k) 0)).1 = 0
        all_goals
          first
            | have tz : ((Di.write (blocks[k] : Int) (blockOf (part l k) 0)).1 != 0) = false := by simpa using hz
            | have tz : ((Di.write (blocks[k] : Int) (blockOf (part l k) 0)).1 != 0) = true := by simpa using hz
          have HZ := Lib.hid hz
          clear hz
          go_wp2
        all_goals
          go_region_law
            (first
              | (go_simp; go_at_call 75; refine (block_calls0 _ _ _ (part l k) _ HPL.out (part_length l k) ?_).mono ?_; exact HPC.out; rintro e w2 ⟨rfl, hB, hbel⟩; have hs2 : w2.cell? ⟨s, 0, none⟩ = some (.pointer (some ⟨d, 0, none⟩)) := ((HSW.out.belowH hbel rfl HSW.out.lt).cell 0).trans HS0.out)
              | (go_simp; go_at_call 74; refine (write_any w2 (HWRH.out w2 _ ⟨hbel.os, hbel.tape, hbel.output, hbel.size, hbel.block⟩ hB).1 hlife hpen _ _ _ (HWRH.out w2 _ ⟨hbel.os, hbel.tape, hbel.output, hbel.size, hbel.block⟩ hB).2).mono ?_; rintro e w3 ⟨rfl, hAf⟩))
          all_goals
            go_wp2
            have hst := spread_next (P := P) (w3 := w3) hlt hw hsmi hSi hki hbel (by rw [HNX.out]; exact hAf)
            rw [HNX.out] at hst
            first
              | exact ⟨⟨k + 1, by omega, by go_num, hst.1 HZ.out⟩, by simp [intOf]; omega⟩
              | (go_ret
                 obtain ⟨e1, e2⟩ := hst.2 HZ.out
                 exact ⟨(congrArg (fun z : Int × Dsk => Ending.returned (Value.int .i64 z.1)) e1).symm, e2⟩)
    · have hk2 : k = blocks.length := by omega
      have HK := Lib.hid hk2
      clear hk2
      go_wp2
      go_ret
      obtain ⟨Di, Si, hw, hDi, hsmi, hSi, hki⟩ := hI
      rw [List.drop_eq_nil_of_le (by rw [spreadList_length, HK.out]; exact Nat.le_refl _)] at hw
      have e : writes (spreadList l blocks) D = (0, Di) := hw.symm
      rw [e]
      exact ⟨rfl, Si, hDi, hSi, hki⟩

set_option maxRecDepth 100000 in
set_option maxHeartbeats 4000000 in
theorem spread_nil {P : Nat → Prop} {d s : Nat} {D : Dsk} {S : List Nat} (w : World) (hD : DiskAt P w d D S) (cs : Array Value) (hs : Blk w s 100 cs) (hs0 : cs[0]? = some (.pointer (some ⟨d, 0, none⟩)))
    (blocks : List Nat) (bv' : Value) (hb : NumsAt w bv' blocks) (hlen : blocks.length ≤ 1) (hbl : ∀ x ∈ blocks, x ≤ 65535) (hsm : Small D blocks.length) :
    Calls Tryz.prog 119 #[.pointer (some ⟨s, 0, none⟩), .slice none 0 0, bv'] w fun e w' => e = .returned (.int .i64 (writes (spreadList [] blocks) D).1) ∧ After P w w' d (writes (spreadList [] blocks) D).2 S := by
  obtain ⟨A, cap, rfl, hcap, hcm, _⟩ := id hb
  have HB := Lib.hid hb
  have HS := Lib.hid hs
  have HL := Lib.hid hlen
  have HBL := Lib.hid hbl
  have HS0 := Lib.hid hs0
  clear hb hs hlen hbl hs0
  have hbl9 : blocks.length ≤ 1000000000 := by have := HL.out; omega
  go_enter Tryz.func119, Tryz.ntmps119
  go_wp2
  go_loopw [14] (fun i wr => ∃ k : Nat, k ≤ blocks.length ∧ i = .int .i64 k ∧ Spreading P w d S D [] blocks k wr) (fun i _ => blocks.length - (intOf i).toNat)
  case atStart => exact ⟨0, Nat.zero_le _, rfl, D, S, by simp, hD, by simpa using hsm, fun _ h => .inl h, Keeps.refl _ _⟩
  case round =>
    obtain ⟨k, hk, rfl, hI⟩ := hrel
    by_cases hlt : k < blocks.length
    · obtain ⟨Di, Si, hw, hDi, hsmi, hSi, hki⟩ := hI
      have tk : decide ((k : Int) < blocks.length) = true := by simpa using hlt
      obtain ⟨gb, rfl, hcb⟩ := (HB.out.keeps hki (fun g cs hg hk => hD.no (by decide) (by decide) (by decide) hg hk)).cell (by omega)
      have q1 := hcb k hlt
      have HCB := Lib.hid hcb
      clear hcb
      have elo : min (0 : Int) ((k : Int) * 240) = 0 := by omega
      have ehi : min (0 : Int) (((k : Int) + 1) * 240) = 0 := by omega
      have HPL : Hid (0 = (part [] k).length) := by show 0 = (part [] k).length; simp [part]
      have HPC : Hid (0 < (part [] k).length → ∃ g o, (none : Option Addr) = some ⟨g, o, none⟩ ∧ Cells wr g o ((part [] k).map bv)) := by
        intro h
        simp [part] at h
      have HSW : Hid (Blk wr s 100 cs) := HS.out.keeps hki (fun hg => hD.no (by decide) (by decide) (by decide) hg HS.out)
      have HDi := Lib.hid hDi
      have hs1 : wr.cell? ⟨s, 0, none⟩ = some (.pointer (some ⟨d, 0, none⟩)) := (HSW.out.cell 0).trans HS0.out
      clear hDi
      have HWR : ∀ (w2 : World) (nx : Nat), Below wr.heap.size wr w2 → BytesAt (wr.heap.size ≤ ·) w2 (.slice (some ⟨wr.heap.size, 0, none⟩) 256 256) (blockOf (part [] k) nx) → DiskAt P w2 d Di Si ∧ Handed w2 Si (.slice (some ⟨wr.heap.size, 0, none⟩) 256 256) (blockOf (part [] k) nx) := by
        intro w2 nx hbel hB
        refine ⟨HDi.out.below hbel, some ⟨wr.heap.size, 0, none⟩, 256, ?_, fun _ => ⟨wr.heap.size, 0, rfl, ?_, ?_⟩⟩
        · rw [blockOf_length _ _ (by have := part_length [] k; omega)]
        · obtain ⟨g, cap, cur, hv, _, _, _, hc⟩ := hB.cells
          injection hv with h1
          injection h1 with h1
          injection h1 with h1
          rw [h1]
          exact hc
        · intro hm
          obtain ⟨t, cs', hb', _⟩ := HDi.out.lt _ hm
          exact Nat.lt_irrefl _ hb'.lt
      have HWRH := Lib.hid HWR
      clear HWR
      have hlife := hsmi.life
      have hpen := hsmi.pen
      by_cases hk1 : k + 1 < blocks.length
      · have tk1 : decide ((k : Int) + 1 < blocks.length) = true := by simp; omega
        have q2 := HCB.out (k + 1) hk1
        by_cases hz : (Di.write (blocks[k] : Int) (blockOf (part [] k) blocks[k + 1])).1 = 0
        all_goals
          first
            | have tz : ((Di.write (blocks[k] : Int) (blockOf (part [] k) blocks[k + 1])).1 != 0) = false := by simpa using hz
            | have tz : ((Di.write (blocks[k] : Int) (blockOf (part [] k) blocks[k + 1])).1 != 0) = true := by simpa using hz
          have HZ := Lib.hid hz
          clear hz
          go_wp2
        all_goals
          go_region_law
            (first
              | (go_simp; go_at_call 75; refine (block_calls _ _ _ (part [] k) blocks[k + 1] _ HPL.out (part_length [] k) (HBL.out _ (List.getElem_mem _)) ?_).mono ?_; exact HPC.out; rintro e w2 ⟨rfl, hB, hbel⟩; have hs2 : w2.cell? ⟨s, 0, none⟩ = some (.pointer (some ⟨d, 0, none⟩)) := ((HSW.out.belowH hbel rfl HSW.out.lt).cell 0).trans HS0.out)
              | (go_simp; go_at_call 74; refine (write_any w2 (HWRH.out w2 _ ⟨hbel.os, hbel.tape, hbel.output, hbel.size, hbel.block⟩ hB).1 hlife hpen _ _ _ (HWRH.out w2 _ ⟨hbel.os, hbel.tape, hbel.output, hbel.size, hbel.block⟩ hB).2).mono ?_; rintro e w3 ⟨rfl, hAf⟩))
          all_goals
            go_wp2
            have hnx : blocks[k + 1]?.getD 0 = blocks[k + 1] := by simp [hk1]
            have hst := spread_next (P := P) (w3 := w3) hlt hw hsmi hSi hki hbel (by rw [hnx]; exact hAf)
            rw [hnx] at hst
            first
              | exact ⟨⟨k + 1, by omega, by go_num, hst.1 HZ.out⟩, by simp [intOf]; omega⟩
              | (go_ret
                 obtain ⟨e1, e2⟩ := hst.2 HZ.out
                 exact ⟨(congrArg (fun z : Int × Dsk => Ending.returned (Value.int .i64 z.1)) e1).symm, e2⟩)
      · have tk1 : decide ((k : Int) + 1 < blocks.length) = false := by simp; omega
        have hnx : blocks[k + 1]?.getD 0 = 0 := by simp [show ¬ k + 1 < blocks.length from hk1]
        have HNX := Lib.hid hnx
        clear hnx
        by_cases hz : (Di.write (blocks[k] : Int) (blockOf (part [] k) 0)).1 = 0
        all_goals
          first
            | have tz : ((Di.write (blocks[k] : Int) (blockOf (part [] k) 0)).1 != 0) = false := by simpa using hz
            | have tz : ((Di.write (blocks[k] : Int) (blockOf (part [] k) 0)).1 != 0) = true := by simpa using hz
          have HZ := Lib.hid hz
          clear hz
          go_wp2
        all_goals
          go_region_law
            (first
              | (go_simp; go_at_call 75; refine (block_calls0 _ _ _ (part [] k) _ HPL.out (part_length [] k) ?_).mono ?_; exact HPC.out; rintro e w2 ⟨rfl, hB, hbel⟩; have hs2 : w2.cell? ⟨s, 0, none⟩ = some (.pointer (some ⟨d, 0, none⟩)) := ((HSW.out.belowH hbel rfl HSW.out.lt).cell 0).trans HS0.out)
              | (go_simp; go_at_call 74; refine (write_any w2 (HWRH.out w2 _ ⟨hbel.os, hbel.tape, hbel.output, hbel.size, hbel.block⟩ hB).1 hlife hpen _ _ _ (HWRH.out w2 _ ⟨hbel.os, hbel.tape, hbel.output, hbel.size, hbel.block⟩ hB).2).mono ?_; rintro e w3 ⟨rfl, hAf⟩))
          all_goals
            go_wp2
            have hst := spread_next (P := P) (w3 := w3) hlt hw hsmi hSi hki hbel (by rw [HNX.out]; exact hAf)
            rw [HNX.out] at hst
            first
              | exact ⟨⟨k + 1, by omega, by go_num, hst.1 HZ.out⟩, by simp [intOf]; omega⟩
              | (go_ret
                 obtain ⟨e1, e2⟩ := hst.2 HZ.out
                 exact ⟨(congrArg (fun z : Int × Dsk => Ending.returned (Value.int .i64 z.1)) e1).symm, e2⟩)
    · have hk2 : k = blocks.length := by omega
      have HK := Lib.hid hk2
      clear hk2
      go_wp2
      go_ret
      obtain ⟨Di, Si, hw, hDi, hsmi, hSi, hki⟩ := hI
      rw [List.drop_eq_nil_of_le (by rw [spreadList_length, HK.out]; exact Nat.le_refl _)] at hw
      have e : writes (spreadList [] blocks) D = (0, Di) := hw.symm
      rw [e]
      exact ⟨rfl, Si, hDi, hSi, hki⟩

theorem spread_calls {P Q : Nat → Prop} {d s : Nat} {D : Dsk} {S : List Nat} (w : World) (hD : DiskAt P w d D S) (cs : Array Value) (hs : Blk w s 100 cs) (hs0 : cs[0]? = some (.pointer (some ⟨d, 0, none⟩)))
    (l : List UInt8) (v : Value) (hv : (v = .slice none 0 0 ∧ l = []) ∨ (0 < l.length ∧ BytesAt Q w v l)) (blocks : List Nat) (bv' : Value) (hb : NumsAt w bv' blocks) (hlen : blocks.length ≤ max 1 ((l.length + 239) / 240)) (hl : l.length ≤ 1000000000) (hbl : ∀ x ∈ blocks, x ≤ 65535) (hsm : Small D blocks.length) :
    Calls Tryz.prog 119 #[.pointer (some ⟨s, 0, none⟩), v, bv'] w fun e w' => e = .returned (.int .i64 (writes (spreadList l blocks) D).1) ∧ After P w w' d (writes (spreadList l blocks) D).2 S := by
  rcases hv with ⟨rfl, rfl⟩ | ⟨hl0, hB⟩
  · exact spread_nil w hD cs hs hs0 blocks bv' hb (by simpa using hlen) hbl hsm
  · exact spread_some w hD cs hs hs0 l v (.inr hB) hl0 blocks bv' hb hlen hl hbl hsm

end Go.Proofs.YtbgiklkpinflaaaGreat
