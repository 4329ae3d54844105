/- (*Disk).Sync. -/
import Derived.Test.YtbgiklkpinflaaaDisk5
import Derived.RegionTactic
namespace Go.Proofs.Ytbgiklkpinflaaa
open Go.RowKit Go.Shelf

theorem DiskRep.keepsB {P : Nat → Prop} {w w' : World} {b : Nat} {D : Dsk} {g1 : Nat} {cur1 : Array Value} {pv : Value} {ps : List (Nat × Value)} {B : Nat} (h : DiskRep P w b D g1 cur1 pv ps) (hb : Below B w w') (hB : w.heap.size ≤ B) : DiskRep P w' b D g1 cur1 pv ps :=
  h.keeps (F := fun _ => False) (Keeps.of_below (hb.mono hB)) (fun _ _ => id) (fun _ _ h => h.elim)

set_option maxRecDepth 100000 in
set_option maxHeartbeats 2000000 in
theorem sync_down (b n c : Nat) (A : Option Addr) (w : World) (h0 : w.cell? ⟨b, 0, none⟩ = some (.slice A n c)) (hn : 0 < n) (hm : n ≤ 1024) (h3 : w.cell? ⟨b, 3, none⟩ = some (.bool true)) :
    Calls Try.prog 46 #[.pointer (some ⟨b, 0, none⟩)] w fun e w' => e = .returned (.int .i64 50) ∧ w = w' := by
  go_enter Try.func46, Try.ntmps46
  go_wp2_with (go_at_call 55; refine (down_any b n c A true _ h0 hn hm h3).mono ?_; rintro e w' ⟨rfl, rfl⟩)
  go_ret
  exact ⟨rfl, rfl⟩

theorem settle_all {n : Nat} : ∀ {l : List (Nat × List UInt8)} {B : List (List UInt8)}, (∀ x ∈ B, x.length = n) → (∀ p ∈ l, p.2.length = n) → ∀ x ∈ settle B l, x.length = n := by
  intro l
  induction l with
  | nil => intro B hB _; exact hB
  | cons p l ih =>
    intro B hB hl
    show ∀ x ∈ settle (B.set p.1 p.2) l, _
    refine ih (fun x hx => ?_) (fun q hq => hl q (by simp [hq]))
    rcases List.mem_or_eq_of_mem_set hx with h | rfl
    · exact hB x h
    · exact hl p (by simp)

/-- k of the writes have taken effect. -/
def Settling (P : Nat → Prop) (w1 : World) (b : Nat) (E : Dsk) (g1 : Nat) (cur1 : Array Value) (pv : Value) (ps : List (Nat × Value)) (k : Nat) (wr : World) : Prop :=
  ∃ cur, cur.size = cur1.size ∧ DiskRep P wr b { E with blocks := settle E.blocks (E.pending.take k) } g1 cur pv ps ∧ Keeps (· = g1) w1 wr

theorem Settling.pen_at {P : Nat → Prop} {w1 : World} {b : Nat} {E : Dsk} {g1 : Nat} {cur1 : Array Value} {pv : Value} {ps : List (Nat × Value)} {k : Nat} {wr : World} (h : Settling P w1 b E g1 cur1 pv ps k wr) {j : Nat} (hj : j < ps.length) {gp c1 n : Nat} (hv : pv = .slice (some ⟨gp, 0, none⟩) n c1) :
    wr.cell? ⟨gp, j * 2, none⟩ = some (.int .i64 ((pen ps j).1 : Int)) ∧ wr.cell? ⟨gp, j * 2 + 1, none⟩ = some (pen ps j).2 := by
  obtain ⟨cur, _, hr, _⟩ := h
  obtain ⟨A, c, hA, hp⟩ := PenSlice.of_own hr.own hr.pslen
  obtain ⟨g, rfl, _, hp⟩ := hp (by omega)
  rw [hv] at hA
  cases hA
  exact hp j hj

theorem Settling.has {P : Nat → Prop} {w1 : World} {b : Nat} {E : Dsk} {g1 : Nat} {cur1 : Array Value} {pv : Value} {ps : List (Nat × Value)} {k : Nat} {wr : World} (h : Settling P w1 b E g1 cur1 pv ps k wr) {j : Nat} (hj : j < E.blocks.length) :
    ∃ g n c, wr.cell? ⟨g1, j, none⟩ = some (.slice g n c) := by
  obtain ⟨cur, _, hr, _⟩ := h
  have hjl : j < (settle E.blocks (E.pending.take k)).length := by rw [settle_length]; exact hj
  obtain ⟨v, hv, hB⟩ := hr.bl j _ (List.getElem?_eq_getElem hjl)
  obtain ⟨g, cap, _, rfl, _⟩ := hB
  exact ⟨_, _, _, (hr.hg.cell j).trans hv⟩

theorem Settling.step {P : Nat → Prop} {w1 : World} {b : Nat} {E : Dsk} {g1 : Nat} {cur1 : Array Value} {pv : Value} {ps : List (Nat × Value)} {k : Nat} {wr : World} (h : Settling P w1 b E g1 cur1 pv ps k wr) (hk : k < ps.length) (hE : DskOk E) (o : Obj) :
    Settling P w1 b E g1 cur1 pv ps (k + 1) ((wr.alloc o).setCell ⟨g1, (pen ps k).1, none⟩ (pen ps k).2).drew := by
  obtain ⟨cur, hcs, hr, hkk⟩ := h
  have hr2 : DiskRep P (wr.alloc o).drew b _ g1 cur pv ps := hr.keepsB (B := wr.heap.size) (((Below.refl _ wr).alloc (Nat.le_refl _) o).drew_) (Nat.le_refl _)
  obtain ⟨l, hpk, hB⟩ := hr2.pen_at k hk
  have hpi := hE.pen _ (List.mem_of_getElem? hpk)
  refine ⟨cur.setIfInBounds (pen ps k).1 (pen ps k).2, by simpa using hcs, ?_, ?_⟩
  · have := hr2.setBlock (pen ps k).1 l (pen ps k).2 hB (by simpa [settle_length] using hpi.1)
    rw [settle_take _ _ hpk]
    exact this
  · exact ((hkk.alloc o).drew).trans (Keeps.set1 _ g1 _ _) (fun _ _ h => h)

set_option maxRecDepth 100000 in
set_option maxHeartbeats 2000000 in
theorem sync_good {P : Nat → Prop} {b : Nat} {D : Dsk} {g1 : Nat} {cur1 : Array Value} {pv : Value} {ps : List (Nat × Value)} (w : World) (h : DiskRep P w b D g1 cur1 pv ps) (ho : DskOk D) (hl : D.life ≤ 4611686018427387904) (hd : D.down = false) (hn : D.pending.length ≤ 1000000000) :
    Calls Try.prog 46 #[.pointer (some ⟨b, 0, none⟩)] w fun e w' => e = .returned (.int .i64 D.sync.1) ∧ After P w w' b D.sync.2 (b :: g1 :: pv.ownBlock.toList) := by
  have h0 := h.c0
  have h3 := h.c3
  rw [hd] at h3
  have hf := ho.few
  have hs := ho.some_
  have HF := Lib.hid (fails_calls h ho hl)
  cases hff : D.fails.1
  · have HE : Hid (D.sync = (0, { D.fails.2 with blocks := settle D.blocks D.pending, pending := [] })) := by
      show D.sync = _
      unfold Dsk.sync
      rw [hd, hff]
      rfl
    rw [hff] at HF
    go_enter Try.func46, Try.ntmps46
    go_wp2_with (first
      | (go_at_call 55; refine (down_any b _ _ _ false _ h0 hs hf h3).mono ?_; rintro e wx ⟨rfl, rfl⟩)
      | (go_at_call 67; refine HF.out.mono ?_; rintro e w1 ⟨rfl, hr1, hk1⟩; clear HF; obtain ⟨A1, c1, hv1, hp1⟩ := PenSlice.of_own hr1.own hr1.pslen; have hc1 := hr1.c1; rw [hv1] at hc1; have HR := Lib.hid hr1; have HV := Lib.hid hv1; have HK := Lib.hid hk1; have HP := Lib.hid hp1; clear hr1 hv1 hk1 hp1))
    have hpsr : ps.length ≤ 1000000000 := by have := HR.out.pslen; rw [D.fails_pending] at this; omega
    go_loopw [16] (fun i wr => ∃ k : Nat, k ≤ ps.length ∧ i = .int .i64 k ∧ Settling P w1 b D.fails.2 g1 cur1 pv ps k wr) (fun i _ => ps.length - (intOf i).toNat)
    case atStart => exact ⟨0, Nat.zero_le _, rfl, cur1, rfl, HR.out, Keeps.refl _ _⟩
    case round =>
      obtain ⟨k, hk, rfl, hset⟩ := hrel
      by_cases hlt : k < ps.length
      · obtain ⟨gp, hA, _, hpen⟩ := HP.out (by omega)
        subst hA
        obtain ⟨cur, hcs, hr, hkk⟩ := id hset
        obtain ⟨l, hpk, hB⟩ := hr.pen_at k hlt
        obtain ⟨gx, cx, _, hvx, _⟩ := id hB
        have hpi : (pen ps k).1 < D.fails.2.blocks.length ∧ l.length = 256 := ho.fails.pen _ (List.mem_of_getElem? hpk)
        obtain ⟨hpi1, hll⟩ := hpi
        have hpen' := hset.pen_at hlt HV.out
        obtain ⟨q1, q2⟩ := hpen'
        have q3 := hr.c0
        simp only [settle_length] at q3
        have q4 := hr.hg.frozen (pen ps k).1
        obtain ⟨go, no, co, q5⟩ := hset.has hpi1
        have HX := Lib.hid hvx
        rw [hvx] at q2
        have q3a : ∀ o, (wr.alloc o).cell? ⟨b, 0, none⟩ = some (.slice (some ⟨g1, 0, none⟩) D.fails.2.blocks.length cur.size) := fun o => Lib.cell?_alloc_some _ q3
        have q5a : ∀ o, (wr.alloc o).cell? ⟨g1, (pen ps k).1, none⟩ = some (.slice go no co) := fun o => Lib.cell?_alloc_some _ q5
        have q4a : ∀ o, (wr.alloc o).frozen? ⟨g1, (pen ps k).1, none⟩ = false := fun o => by rw [World.frozen?_alloc_old _ _ _ (Nat.ne_of_lt hr.hg.lt)]; exact q4
        have HS := Lib.hid hset
        have HP2 := Lib.hid hpk
        clear hset hpk hvx hll hB hr hkk hcs hpen
        go_wp2
        go_region
        all_goals
          go_wp2
          go_roundw
          case rel =>
            have hst := HS.out.step hlt ho.fails (.cells #[.int .i64 ((pen ps k).1 : Int), (pen ps k).2] 109)
            rw [HX.out] at hst
            exact ⟨k + 1, by omega, by go_num, hst⟩
          case measure => simp [intOf]; omega
      · have hk2 : k = ps.length := by omega
        have hset' := hset
        obtain ⟨cur, hcs, hr, hkk⟩ := hset
        have q1 := hr.c1
        rw [HV.out] at q1
        have q2 := hr.hb.frozen 1
        have H1 := Lib.hid hk2
        have HR2 := Lib.hid hr
        clear hr hk2 hset'
        go_wp2
        go_ret
        rw [HE.out]
        refine ⟨rfl, [b, g1], ⟨?_, g1, cur, .slice none 0 0, [], rfl, ?_⟩, ?_, ?_⟩
        · refine ⟨?_, fun p hp => by simp at hp, by simpa [settle_length] using ho.some_, by simpa [settle_length] using ho.few, ho.fails.armedLe⟩
          exact settle_all ho.blk fun p hp => (ho.pen p hp).2
        · have := HR2.out.drop
          rw [H1.out, HR.out.pslen, List.take_length, D.fails_blocks, D.fails_pending] at this
          exact this
        · intro i hi
          left
          simp only [List.mem_cons, List.not_mem_nil, or_false] at hi ⊢
          rcases hi with h | h
          · exact .inl h
          · exact .inr (.inl h)
        · refine ((HK.out.weaken (F := (· ∈ b :: g1 :: pv.ownBlock.toList)) (fun i _ e => by simp [e])).trans hkk ?_).trans (Keeps.set1 _ b 1 _) ?_
          · rintro i _ rfl
            simp
          · rintro i _ rfl
            simp
  · have HE : Hid (D.sync = (50, D.fails.2)) := by
      show D.sync = _
      unfold Dsk.sync
      rw [hd, hff]
      rfl
    rw [hff] at HF
    go_enter Try.func46, Try.ntmps46
    go_wp2_with (first
      | (go_at_call 55; refine (down_any b _ _ _ false _ h0 hs hf h3).mono ?_; rintro e wx ⟨rfl, rfl⟩)
      | (go_at_call 67; refine HF.out.mono ?_; rintro e w1 ⟨rfl, hr1, hk1⟩; clear HF))
    go_ret
    rw [HE.out]
    refine ⟨rfl, b :: g1 :: pv.ownBlock.toList, ⟨ho.fails, g1, cur1, pv, ps, rfl, hr1⟩, fun k hk => .inl hk, hk1.weaken ?_⟩
    intro k _ e
    simp [e]

theorem sync_any {P : Nat → Prop} {b : Nat} {D : Dsk} {S : List Nat} (w : World) (h : DiskAt P w b D S) (hl : D.life ≤ 4611686018427387904) (hn : D.pending.length ≤ 1000000000) :
    Calls Try.prog 46 #[.pointer (some ⟨b, 0, none⟩)] w fun e w' => e = .returned (.int .i64 D.sync.1) ∧ After P w w' b D.sync.2 S := by
  obtain ⟨ho, g1, cur1, pv, ps, rfl, hr⟩ := h
  have hD : DiskAt P w b D (b :: g1 :: pv.ownBlock.toList) := ⟨ho, g1, cur1, pv, ps, rfl, hr⟩
  have h3 := hr.c3
  cases hd : D.down
  · exact sync_good w hr ho hl hd hn
  · rw [hd] at h3
    refine (sync_down b _ _ _ w hr.c0 ho.some_ ho.few h3).mono ?_
    rintro e w' ⟨rfl, rfl⟩
    have e1 : D.sync = (50, D) := by unfold Dsk.sync; rw [if_pos hd]
    rw [e1]
    exact ⟨rfl, After.refl hD⟩

end Go.Proofs.Ytbgiklkpinflaaa
