/- Arm, Pending, Blocks, Crash. Crash, Arm, Pending, Blocks: the walks. -/
import Derived.Test.YtbgiklkpinflaaaGreatKeptA

namespace Go.Proofs.YtbgiklkpinflaaaGreat
open Go.RowKit Go.Shelf
attribute [local go_sem ↓] Go.wp_at_zero Go.wp_at_succ

/-- Some of the writes take effect: those at whose places f holds. -/
def settleIf (f : Nat → Bool) (B : List (List UInt8)) (ps : List (Nat × List UInt8)) : Nat → List (List UInt8)
  | 0 => B
  | k + 1 => if f k then (settleIf f B ps k).set ((ps[k]?.getD (0, [])).1) ((ps[k]?.getD (0, [])).2) else settleIf f B ps k
theorem settleIf_length (f : Nat → Bool) (B : List (List UInt8)) (ps : List (Nat × List UInt8)) (k : Nat) : (settleIf f B ps k).length = B.length := by
  induction k with
  | zero => rfl
  | succ k ih =>
    unfold settleIf
    split
    · rw [List.length_set, ih]
    · exact ih
theorem settleIf_all (f : Nat → Bool) {B : List (List UInt8)} {ps : List (Nat × List UInt8)} {n : Nat} (hB : ∀ x ∈ B, x.length = n) (hp : ∀ p ∈ ps, p.2.length = n) : ∀ k, k ≤ ps.length → ∀ x ∈ settleIf f B ps k, x.length = n := by
  intro k
  induction k with
  | zero => intro _; exact hB
  | succ k ih =>
    intro hk x hx
    unfold settleIf at hx
    split at hx
    · rcases List.mem_or_eq_of_mem_set hx with h | rfl
      · exact ih (by omega) x h
      · rw [List.getElem?_eq_getElem (by omega)]
        exact hp _ (List.getElem_mem _)
    · exact ih (by omega) x hx
def keepOf (ks : List Bool) (k : Nat) : Bool := ks[k]?.getD false
def Dsk.crash (D : Dsk) (f : Nat → Bool) : Dsk := { D with blocks := settleIf f D.blocks D.pending D.pending.length, pending := [], armed := 0, down := false, life := D.life + 1 }
/-- A slice of bools that lies apart from the blocks S. -/
def KeepAt (w : World) (S : List Nat) (v : Value) (ks : List Bool) : Prop :=
  ∃ A c, v = .slice A ks.length c ∧ (ks.length : Int) ≤ 9223372036854775807 ∧ ∀ (k : Nat) (x : Bool), ks[k]? = some x → ∃ a : Addr, A = some a ∧ a.block ∉ S ∧ w.cell? (a.add k) = some (.bool x)
theorem add_block (a : Addr) (k : Nat) : (a.add k).block = a.block := by unfold Addr.add; split <;> rfl

/-- k of the writes have been looked at. -/
def Crashing (P : Nat → Prop) (w1 : World) (b : Nat) (E : Dsk) (f : Nat → Bool) (g1 : Nat) (cur1 : Array Value) (pv : Value) (ps : List (Nat × Value)) (k : Nat) (wr : World) : Prop :=
  ∃ cur, cur.size = cur1.size ∧ DiskRep P wr b { E with blocks := settleIf f E.blocks E.pending k } g1 cur pv ps ∧ Keeps (· = g1) w1 wr

section
variable {P : Nat → Prop} {w1 : World} {b : Nat} {E : Dsk} {f : Nat → Bool} {g1 : Nat} {cur1 : Array Value} {pv : Value} {ps : List (Nat × Value)} {k : Nat} {wr : World}
theorem Crashing.pen_at (h : Crashing P w1 b E f g1 cur1 pv ps k wr) {j : Nat} (hj : j < ps.length) {gp c1 n : Nat} (hv : pv = .slice (some ⟨gp, 0, none⟩) n c1) :
    wr.cell? ⟨gp, j * 2, none⟩ = some (.int .i64 ((pen ps j).1 : Int)) ∧ wr.cell? ⟨gp, j * 2 + 1, none⟩ = some (pen ps j).2 := by
  obtain ⟨cur, _, hr, _⟩ := h
  obtain ⟨A, c, hA, hp⟩ := PenSlice.of_own hr.own hr.pslen
  obtain ⟨g, rfl, _, hp⟩ := hp (by omega)
  rw [hv] at hA
  cases hA
  exact hp j hj
theorem Crashing.has (h : Crashing P w1 b E f g1 cur1 pv ps k wr) {j : Nat} (hj : j < E.blocks.length) : ∃ g n c, wr.cell? ⟨g1, j, none⟩ = some (.slice g n c) := by
  obtain ⟨cur, _, hr, _⟩ := h
  have hjl : j < (settleIf f E.blocks E.pending k).length := by rw [settleIf_length]; exact hj
  obtain ⟨v, hv, hB⟩ := hr.bl j _ (List.getElem?_eq_getElem hjl)
  obtain ⟨g, cap, _, rfl, _⟩ := hB
  exact ⟨_, _, _, (hr.hg.cell j).trans hv⟩
theorem Crashing.skip (h : Crashing P w1 b E f g1 cur1 pv ps k wr) (hf : f k = false) (o : Obj) : Crashing P w1 b E f g1 cur1 pv ps (k + 1) (wr.alloc o) := by
  obtain ⟨cur, hcs, hr, hkk⟩ := h
  refine ⟨cur, hcs, ?_, hkk.alloc o⟩
  have e : settleIf f E.blocks E.pending (k + 1) = settleIf f E.blocks E.pending k := by
    show (if f k then _ else _) = _
    rw [hf, if_neg (by simp)]
  rw [e]
  exact hr.keepsB ((Below.refl _ wr).alloc (Nat.le_refl _) o) (Nat.le_refl _)
theorem Crashing.step (h : Crashing P w1 b E f g1 cur1 pv ps k wr) (hf : f k = true) (hk : k < ps.length) (hE : DskOk E) (o : Obj) :
    Crashing P w1 b E f g1 cur1 pv ps (k + 1) ((wr.alloc o).setCell ⟨g1, (pen ps k).1, none⟩ (pen ps k).2).drew := by
  obtain ⟨cur, hcs, hr, hkk⟩ := h
  have hr2 : DiskRep P (wr.alloc o).drew b _ g1 cur pv ps := hr.keepsB (B := wr.heap.size) (((Below.refl _ wr).alloc (Nat.le_refl _) o).drew_) (Nat.le_refl _)
  obtain ⟨l, hpk, hB⟩ := hr2.pen_at k hk
  have hpk' : E.pending[k]? = some ((pen ps k).1, l) := hpk
  have hpi := hE.pen _ (List.mem_of_getElem? hpk')
  refine ⟨cur.setIfInBounds (pen ps k).1 (pen ps k).2, by simpa using hcs, ?_, ?_⟩
  · have := hr2.setBlock (pen ps k).1 l (pen ps k).2 hB (by simpa [settleIf_length] using hpi.1)
    have e : settleIf f E.blocks E.pending (k + 1) = (settleIf f E.blocks E.pending k).set (pen ps k).1 l := by
      show (if f k then _ else _) = _
      rw [hf, if_pos rfl, hpk']
      rfl
    rw [e]
    exact this
  · exact ((hkk.alloc o).drew).trans (Keeps.set1 _ g1 _ _) (fun _ _ h => h)
theorem Crashing.done (h : Crashing P w1 b E f g1 cur1 pv ps ps.length wr) (hE : DskOk E) : ∃ S', DiskAt P ((((wr.setCell ⟨b, 1, none⟩ (.slice none 0 0)).setCell ⟨b, 2, none⟩ (.int .i64 0)).setCell ⟨b, 3, none⟩ (.bool false)).setCell ⟨b, 4, none⟩ (.int .i64 ((E.life : Int) + 1))) b (E.crash f) S' ∧ S' = [b, g1] ∧
    Keeps (fun i => i = b ∨ i = g1) w1 ((((wr.setCell ⟨b, 1, none⟩ (.slice none 0 0)).setCell ⟨b, 2, none⟩ (.int .i64 0)).setCell ⟨b, 3, none⟩ (.bool false)).setCell ⟨b, 4, none⟩ (.int .i64 ((E.life : Int) + 1))) := by
  obtain ⟨cur, hcs, hr, hkk⟩ := h
  have hpl := hr.pslen
  have hpl : ps.length = E.pending.length := hpl
  have k4 : Keeps (· = b) wr ((((wr.setCell ⟨b, 1, none⟩ (.slice none 0 0)).setCell ⟨b, 2, none⟩ (.int .i64 0)).setCell ⟨b, 3, none⟩ (.bool false)).setCell ⟨b, 4, none⟩ (.int .i64 ((E.life : Int) + 1))) :=
    (((Keeps.set1 _ b 1 _).trans (Keeps.set1 _ b 2 _) (fun _ _ h => h)).trans (Keeps.set1 _ b 3 _) (fun _ _ h => h)).trans (Keeps.set1 _ b 4 _) (fun _ _ h => h)
  have hU : ∀ g cs, g = b → P g → Blk wr g 5 cs → False := fun g cs hg _ hb => hr.noBytes g cs (by simp [hg]) hb
  refine ⟨_, ⟨⟨?_, fun p hp => by simp [Dsk.crash] at hp, by simpa [Dsk.crash, settleIf_length] using hE.some_, by simpa [Dsk.crash, settleIf_length] using hE.few, by simp [Dsk.crash]⟩, g1, cur, .slice none 0 0, [], rfl, ?_⟩, rfl, ?_⟩
  · exact settleIf_all f hE.blk (fun p hp => (hE.pen p hp).2) _ (Nat.le_refl _)
  · refine ⟨?_, hr.hg.keeps k4 (Ne.symm hr.ne1), by simpa [Dsk.crash, settleIf_length] using hr.le, fun i l hi => ?_, ⟨rfl, .inl ⟨rfl, rfl⟩⟩, rfl, fun i p hp => by simp [Dsk.crash] at hp, fun i hi => hr.fresh i (Nat.le_trans k4.size hi)⟩
    · have := (((hr.hb.set_ 1 (.slice none 0 0)).set_ 2 (.int .i64 0)).set_ 3 (.bool false)).set_ 4 (.int .i64 ((E.life : Int) + 1))
      simpa [Dsk.crash, settleIf_length] using this
    · have hi : (settleIf f E.blocks E.pending E.pending.length)[i]? = some l := hi
      rw [← hpl] at hi
      obtain ⟨v, hv, hB⟩ := hr.bl i l hi
      exact ⟨v, hv, hB.keeps k4 hU⟩
  · exact (hkk.weaken (F := fun i => i = b ∨ i = g1) (fun _ _ h => .inr h)).trans k4 (fun _ _ h => .inl h)
end

end Go.Proofs.YtbgiklkpinflaaaGreat

namespace Go.Proofs.YtbgiklkpinflaaaGreat
open Go.RowKit Go.Shelf
attribute [local go_sem ↓] Go.wp_at_zero Go.wp_at_succ

set_option maxRecDepth 100000 in
set_option maxHeartbeats 4000000 in
theorem crash_rep {P : Nat → Prop} {b : Nat} {D : Dsk} {g1 : Nat} {cur1 : Array Value} {pv : Value} {ps : List (Nat × Value)} (w : World) (h : DiskRep P w b D g1 cur1 pv ps) (ho : DskOk D) (hl : D.life ≤ 4611686018427387904) (hn : D.pending.length ≤ 1000000000)
    (v : Value) (ks : List Bool) (hv : KeepAt w [b, g1] v ks) :
    Calls Tryz.prog 25 #[.pointer (some ⟨b, 0, none⟩), v] w fun e w' => e = .returned (.tuple #[]) ∧ After P w w' b (D.crash (keepOf ks)) (b :: g1 :: pv.ownBlock.toList) := by
  have h0 := h.c0
  have hf := ho.few
  have hs := ho.some_
  have h1 := h.c1
  obtain ⟨A1, c1, rfl, hp1⟩ := PenSlice.of_own h.own h.pslen
  obtain ⟨AK, cK, rfl, hkl, hks⟩ := hv
  have hpl := h.pslen
  have hpsr : ps.length ≤ 1000000000 := by omega
  have HR := Lib.hid h
  have HO := Lib.hid ho
  have HK := Lib.hid hks
  have HP := Lib.hid hp1
  have hpl2 : (D.pending.length : Int) = (ps.length : Int) := by omega
  clear hp1 hks h ho
  go_enter Tryz.func25, Tryz.ntmps25
  go_wp2_with (go_at_call 79; refine (none_not b _ _ _ _ h0 hs hf).mono ?_; rintro e wx ⟨rfl, rfl⟩)
  go_loopw [4, 5, 13] (fun _ _ i wr => ∃ k : Nat, k ≤ ps.length ∧ i = .int .i64 k ∧ Crashing P w b D (keepOf ks) g1 cur1 (.slice A1 ps.length c1) ps k wr) (fun _ _ i _ => ps.length - (intOf i).toNat)
  case atStart => exact ⟨0, Nat.zero_le _, rfl, cur1, rfl, HR.out, Keeps.refl _ _⟩
  case round =>
    obtain ⟨k, hk, rfl, hset⟩ := hrel
    by_cases hlt : k < ps.length
    · obtain ⟨gp, rfl, _, hpen⟩ := HP.out (by omega)
      obtain ⟨q1, q2⟩ := hset.pen_at hlt rfl
      obtain ⟨cur, hcs, hr, hkk⟩ := id hset
      obtain ⟨l, hpk, hB⟩ := hr.pen_at k hlt
      obtain ⟨gx, cx, _, hvx, _⟩ := id hB
      have hpk' : D.pending[k]? = some ((pen ps k).1, l) := hpk
      have hpi := HO.out.pen _ (List.mem_of_getElem? hpk')
      obtain ⟨hpi1, hll⟩ := hpi
      have hpi1 : (pen ps k).1 < D.blocks.length := hpi1
      have q3 := hr.c0
      simp only [settleIf_length] at q3
      have q4 := hr.hg.frozen (pen ps k).1
      obtain ⟨go, no, co, q5⟩ := hset.has hpi1
      have HX := Lib.hid hvx
      rw [hvx] at q2
      have q3a : ∀ o, (wr.alloc o).cell? ⟨b, 0, none⟩ = some (.slice (some ⟨g1, 0, none⟩) D.blocks.length cur.size) := fun o => Lib.cell?_alloc_some _ q3
      have q5a : ∀ o, (wr.alloc o).cell? ⟨g1, (pen ps k).1, none⟩ = some (.slice go no co) := fun o => Lib.cell?_alloc_some _ q5
      have q4a : ∀ o, (wr.alloc o).frozen? ⟨g1, (pen ps k).1, none⟩ = false := fun o => by rw [World.frozen?_alloc_old _ _ _ (Nat.ne_of_lt hr.hg.lt)]; exact q4
      have HS := Lib.hid hset
      have hlt2 : (pen ps k).1 < D.blocks.length := hpi1
      have tk : decide ((k : Int) < (ps.length : Int)) = true := by simp; omega
      have HKK := Lib.hid hkk
      clear hset hpk hpk' hvx hll hB hr hkk hcs hpen
      cases hkv : ks[k]? with
      | none =>
        have hfk : keepOf ks k = false := by unfold keepOf; rw [hkv]; rfl
        have hge : ks.length ≤ k := by rcases Nat.lt_or_ge k ks.length with h | h; rw [List.getElem?_eq_getElem h] at hkv; cases hkv; exact h
        have tg : decide ((k : Int) < (ks.length : Int)) = false := by simp; omega
        clear hkv
        go_wp2
        go_roundw
        case rel => exact ⟨k + 1, by omega, by go_num, HS.out.skip hfk _⟩
        case measure => simp [intOf]; omega
      | some x =>
        have hfk : keepOf ks k = x := by unfold keepOf; rw [hkv]; rfl
        have hkl2 : k < ks.length := (List.getElem?_eq_some_iff.1 hkv).1
        have tg : decide ((k : Int) < (ks.length : Int)) = true := by simp; omega
        obtain ⟨a, rfl, ha, hc⟩ := HK.out k x hkv
        have hc2 : ∀ o, (wr.alloc o).cell? (a.add k) = some (.bool x) := fun o => Lib.cell?_alloc_some _ (HKK.out.cell hc (by rw [add_block]; intro e; exact ha (by simp [e])))
        clear hkv hc
        have HA := Lib.hid ha
        clear ha
        cases x
        · go_wp2
          go_roundw
          case rel => exact ⟨k + 1, by omega, by go_num, HS.out.skip hfk _⟩
          case measure => simp [intOf]; omega
        · go_wp2
          go_region
          all_goals
            go_wp2
            go_roundw
            case rel =>
              have hst := HS.out.step hfk hlt HO.out (.cells #[.int .i64 ((pen ps k).1 : Int), (pen ps k).2] 138)
              rw [HX.out] at hst
              exact ⟨k + 1, by omega, by go_num, hst⟩
            case measure => simp [intOf]; omega
    · obtain rfl : k = ps.length := by omega
      have tk : decide ((ps.length : Int) < ps.length) = false := by simp
      obtain ⟨cur, hcs, hr, hkk⟩ := id hset
      have q1 := hr.c1
      have q2 := hr.c2
      have q3 := hr.c3
      have q4 := hr.c4
      have f1 := hr.hb.frozen 1
      have f2 := hr.hb.frozen 2
      have f3 := hr.hb.frozen 3
      have f4 := hr.hb.frozen 4
      have HS := Lib.hid hset
      clear hset hr hkk hcs
      go_wp2
      go_end0
      obtain ⟨S', hD, rfl, hk⟩ := HS.out.done HO.out
      refine ⟨rfl, _, hD, fun i hi => ?_, hk.weaken fun i _ hi => ?_⟩
      · simp only [List.mem_cons, List.not_mem_nil, or_false] at hi
        rcases hi with h | h
        · exact .inl (by simp [h])
        · exact .inl (by simp [h])
      · rcases hi with h | h
        · simp [h]
        · simp [h]

theorem KeepAt.mono {w : World} {S T : List Nat} {v : Value} {ks : List Bool} (h : KeepAt w S v ks) (hT : ∀ k ∈ T, k ∈ S) : KeepAt w T v ks := by
  obtain ⟨A, c, h1, h2, h3⟩ := h
  exact ⟨A, c, h1, h2, fun k x hk => let ⟨a, e1, e2, e3⟩ := h3 k x hk; ⟨a, e1, fun hm => e2 (hT _ hm), e3⟩⟩
theorem crash_any {P : Nat → Prop} {b : Nat} {D : Dsk} {S : List Nat} (w : World) (h : DiskAt P w b D S) (hl : D.life ≤ 4611686018427387904) (hn : D.pending.length ≤ 1000000000) (v : Value) (ks : List Bool) (hv : KeepAt w S v ks) :
    Calls Tryz.prog 25 #[.pointer (some ⟨b, 0, none⟩), v] w fun e w' => e = .returned (.tuple #[]) ∧ After P w w' b (D.crash (keepOf ks)) S := by
  obtain ⟨ho, g1, cur1, pv, ps, rfl, hr⟩ := h
  exact crash_rep w hr ho hl hn v ks (hv.mono fun k hk => by
    simp only [List.mem_cons, List.not_mem_nil, or_false] at hk
    rcases hk with h | h
    · simp [h]
    · simp [h])

def Dsk.arm (D : Dsk) (n : Int) : Dsk := { D with armed := n.toNat }
theorem arm_rep {P : Nat → Prop} {w : World} {b : Nat} {D : Dsk} {S : List Nat} (h : DiskAt P w b D S) {n : Int} (hn : n ≤ 9223372036854775807) {x : Int} (hx : x = (n.toNat : Int)) : After P w (w.setCell ⟨b, 2, none⟩ (.int .i64 x)) b (D.arm n) S := by
  subst hx
  obtain ⟨ho, g1, cur1, pv, ps, rfl, hr⟩ := h
  have k : Keeps (· = b) w (w.setCell ⟨b, 2, none⟩ (.int .i64 (n.toNat : Int))) := Keeps.set1 _ b 2 _
  have hU : ∀ g cs, g = b → P g → Blk w g 5 cs → False := fun g cs hg _ hb => hr.noBytes g cs (by simp [hg]) hb
  refine ⟨_, ⟨⟨ho.blk, ho.pen, ho.some_, ho.few, by simp [Dsk.arm]; omega⟩, g1, cur1, pv, ps, rfl, hr.hb.set_ 2 _, hr.hg.keeps k (Ne.symm hr.ne1), hr.le, fun i l hi => ?_, ownsRow_keeps hr.own k fun g hg e => hr.ne2 (by rw [hg, e]), hr.pb, fun i p hp => ?_, fun i hi => hr.fresh i (Nat.le_trans k.size hi)⟩, fun i hi => .inl hi, k.weaken fun i _ e => by simp [e]⟩
  · obtain ⟨v, hv, hB⟩ := hr.bl i l hi
    exact ⟨v, hv, hB.keeps k hU⟩
  · obtain ⟨v, hv, hB⟩ := hr.pl i p hp
    exact ⟨v, hv, hB.keeps k hU⟩
set_option maxRecDepth 100000 in
set_option maxHeartbeats 1000000 in
theorem arm_any {P : Nat → Prop} {b : Nat} {D : Dsk} {S : List Nat} (w : World) (h : DiskAt P w b D S) (n : Int) (hn : n ≤ 9223372036854775807) :
    Calls Tryz.prog 28 #[.pointer (some ⟨b, 0, none⟩), .int .i64 n] w fun e w' => e = .returned (.tuple #[]) ∧ After P w w' b (D.arm n) S := by
  have hA := fun x hx => arm_rep h hn (x := x) hx
  obtain ⟨ho, g1, cur1, pv, ps, rfl, hr⟩ := h
  have h0 := hr.c0
  have h2 := hr.c2
  have f2 := hr.hb.frozen 2
  have hs := ho.some_
  have hf := ho.few
  have HA := Lib.hid hA
  clear hr ho hA
  go_enter Tryz.func28, Tryz.ntmps28
  go_wp2_with (go_at_call 79; refine (none_not b _ _ _ _ h0 hs hf).mono ?_; rintro e wx ⟨rfl, rfl⟩)
  go_end0
  refine ⟨rfl, HA.out _ ?_⟩
  omega
set_option maxRecDepth 100000 in
set_option maxHeartbeats 1000000 in
theorem pending_any {P : Nat → Prop} {b : Nat} {D : Dsk} {S : List Nat} (w : World) (h : DiskAt P w b D S) :
    Calls Tryz.prog 99 #[.pointer (some ⟨b, 0, none⟩)] w fun e w' => e = .returned (.int .i64 (D.pending.length : Int)) ∧ w = w' := by
  obtain ⟨ho, g1, cur1, pv, ps, rfl, hr⟩ := h
  have h0 := hr.c0
  have hs := ho.some_
  have hf := ho.few
  obtain ⟨A1, c1, rfl, _⟩ := PenSlice.of_own hr.own hr.pslen
  have h1 := hr.c1
  have hpl := hr.pslen
  have HPL := Lib.hid hpl
  clear hr ho hpl
  go_enter Tryz.func99, Tryz.ntmps99
  go_wp2_with (go_at_call 79; refine (none_not b _ _ _ _ h0 hs hf).mono ?_; rintro e wx ⟨rfl, rfl⟩)
  go_ret
  exact ⟨ret_int (by rw [HPL.out]), rfl⟩

end Go.Proofs.YtbgiklkpinflaaaGreat
