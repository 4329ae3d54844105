/- Spoil: plain facts, and the walk. Spoil: the walks. Spoil: the pending writes behind the strike. Spoil: slices.DeleteFunc of a disk's pending writes. Spoil: a byte of a block is changed in a copy that takes the block's place. -/
import Derived.Test.YtbgiklkpinflaaaSpoilA

namespace Go.Proofs.Ytbgiklkpinflaaa
open Go.RowKit Go.Shelf
attribute [local go_sem ↓] Go.wp_at_zero Go.wp_at_succ

/-- Is the k-th of the writes to block i? -/
def hits (D : Dsk) (i k : Nat) : Bool := (D.pending[k]?.getD (i + 1, [])).1 == i
theorem settleIf_hits (D : Dsk) {i : Nat} (hi : i < D.blocks.length) : ∀ k, k ≤ D.pending.length → settleIf (hits D i) D.blocks D.pending k = D.blocks.set i (Ref.seeTo D i k)
  | 0, _ => by
    have e : Ref.seeTo D i 0 = D.blocks[i] := by
      unfold Ref.seeTo
      rw [List.take_zero, List.getElem?_eq_getElem hi]
      rfl
    rw [e, List.set_getElem_self]
    rfl
  | k + 1, h => by
    have hk : D.pending[k]? = some D.pending[k] := List.getElem?_eq_getElem (by omega)
    have ih := settleIf_hits D hi k (by omega)
    rw [Ref.seeTo_next D i hk]
    unfold settleIf
    rw [ih]
    unfold hits
    rw [hk]
    simp only [Option.getD_some]
    by_cases he : D.pending[k].1 = i
    · rw [if_pos (by simpa using he), if_pos he, he, List.set_set]
    · rw [if_neg (by simpa using he), if_neg he]
theorem settleIf_spoil (D : Dsk) {i : Nat} (hi : i < D.blocks.length) : settleIf (hits D i) D.blocks D.pending D.pending.length = D.blocks.set i (D.see i) := by
  rw [settleIf_hits D hi _ (Nat.le_refl _), Ref.seeTo_all D i (Nat.le_refl _)]

def spoilB (l : List UInt8) (k : Nat) (y : Int) : List UInt8 := l.set k (UInt8.ofNat (bits BinOp.xor IntKind.u8 ((l[k]?.getD 0).toNat : Int) y).toNat)
def Dsk.spoil (D : Dsk) (i k : Int) (y : Int) : Int × Dsk :=
  if D.down then (50, D) else if i < 0 ∨ (D.blocks.length : Int) ≤ i then (51, D) else if k < 0 ∨ 256 ≤ k then (2, D)
  else (0, { D with blocks := D.blocks.set i.toNat (spoilB (D.see i.toNat) k.toNat y), pending := D.pending.filter fun p => !(p.1 == i.toNat) })

end Go.Proofs.Ytbgiklkpinflaaa

namespace Go.Proofs.Ytbgiklkpinflaaa
open Go.RowKit Go.Shelf
attribute [local go_sem ↓] Go.wp_at_zero Go.wp_at_succ

set_option maxRecDepth 100000 in
set_option maxHeartbeats 2000000 in
theorem spoil_bad {P : Nat → Prop} {b : Nat} {D : Dsk} {S : List Nat} (w : World) (h : DiskAt P w b D S) (i k y : Int) (hbad : (D.spoil i k y).1 ≠ 0) :
    Calls Try.prog 52 #[.pointer (some ⟨b, 0, none⟩), .int .i64 i, .int .i64 k, .int .u8 y] w fun e w' => e = .returned (.int .i64 (D.spoil i k y).1) ∧ (D.spoil i k y).2 = D ∧ Below w.heap.size w w' := by
  obtain ⟨ho, g1, cur1, pv, ps, rfl, hr⟩ := h
  have hs := ho.some_
  have hf := ho.few
  have h0 : ∀ o, (w.alloc o).cell? ⟨b, 0, none⟩ = some (.slice (some ⟨g1, 0, none⟩) D.blocks.length cur1.size) := fun o => Lib.cell?_alloc_some _ hr.c0
  have h3 : ∀ o, (w.alloc o).cell? ⟨b, 3, none⟩ = some (.bool D.down) := fun o => Lib.cell?_alloc_some _ hr.c3
  have HD : Hid (∀ o, Calls Try.prog 55 #[.pointer (some ⟨b, 0, none⟩)] (w.alloc o) fun e w' => e = .returned (.bool D.down) ∧ w.alloc o = w') := fun o => down_any b _ _ _ D.down _ (h0 o) hs hf (h3 o)
  obtain ⟨R, hR⟩ : ∃ R, R = D.spoil i k y := ⟨_, rfl⟩
  rw [← hR] at hbad ⊢
  clear hr ho
  cases hd : D.down
  · rw [hd] at HD
    by_cases h1 : i < 0
    · have t1 : decide (i < 0) = true := by simpa using h1
      have e : R = (51, D) := by rw [hR]; unfold Dsk.spoil; rw [hd, if_neg (by simp), if_pos (.inl h1)]
      rw [e]
      clear hR hbad e
      go_enter Try.func52, Try.ntmps52
      go_wp2_with (go_at_call 55; refine (HD.out _).mono ?_; rintro e w1 ⟨rfl, rfl⟩)
      go_quiet (fail)
      go_wp2
      go_ret
      exact ⟨rfl, trivial, ((Below.refl _ w).alloc (Nat.le_refl _) _).drewN_ nq⟩
    · by_cases h2 : (D.blocks.length : Int) ≤ i
      · have t1 : decide (i < 0) = false := by simpa using h1
        have t2 : decide ((D.blocks.length : Int) ≤ i) = true := by simpa using h2
        have e : R = (51, D) := by rw [hR]; unfold Dsk.spoil; rw [hd, if_neg (by simp), if_pos (.inr h2)]
        rw [e]
        clear hR hbad e
        go_enter Try.func52, Try.ntmps52
        go_wp2_with (go_at_call 55; refine (HD.out _).mono ?_; rintro e w1 ⟨rfl, rfl⟩)
        go_quiet (fail)
        go_wp2
        go_ret
        exact ⟨rfl, trivial, ((Below.refl _ w).alloc (Nat.le_refl _) _).drewN_ nq⟩
      · have hk : k < 0 ∨ 256 ≤ k := by
          rcases Int.lt_or_le k 0 with h | h
          · exact .inl h
          · rcases Int.lt_or_le k 256 with h5 | h5
            · exfalso
              refine hbad ?_
              rw [hR]
              unfold Dsk.spoil
              rw [hd, if_neg (by simp), if_neg (by omega), if_neg (by omega)]
            · exact .inr h5
        have t1 : decide (i < 0) = false := by simpa using h1
        have t2 : decide ((D.blocks.length : Int) ≤ i) = false := by simpa using h2
        have e : R = (2, D) := by rw [hR]; unfold Dsk.spoil; rw [hd, if_neg (by simp), if_neg (by omega), if_pos hk]
        rw [e]
        clear hR hbad e
        by_cases h5 : k < 0
        all_goals
          first
            | (have t3 : decide (k < 0) = true := by simpa using h5)
            | (have t3 : decide (k < 0) = false := by simpa using h5
               have t4 : decide ((256 : Int) ≤ k) = true := by simp; omega)
          go_enter Try.func52, Try.ntmps52
          go_wp2_with (go_at_call 55; refine (HD.out _).mono ?_; rintro e w1 ⟨rfl, rfl⟩)
          go_quiet (fail)
          go_wp2
          go_ret
          exact ⟨rfl, trivial, ((Below.refl _ w).alloc (Nat.le_refl _) _).drewN_ nq⟩
  · have e : R = (50, D) := by rw [hR]; unfold Dsk.spoil; rw [hd, if_pos rfl]
    rw [e]
    rw [hd] at HD
    clear hR hbad e
    go_enter Try.func52, Try.ntmps52
    go_wp2_with (go_at_call 55; refine (HD.out _).mono ?_; rintro e w1 ⟨rfl, rfl⟩)
    go_ret
    exact ⟨rfl, trivial, (Below.refl _ w).alloc (Nat.le_refl _) _⟩

end Go.Proofs.Ytbgiklkpinflaaa

namespace Go.Proofs.Ytbgiklkpinflaaa
open Go.RowKit Go.Shelf

theorem kept_pl (R : Value → List UInt8 → Prop) (i : Nat) : ∀ {ps : List (Nat × Value)} {qs : List (Nat × List UInt8)}, ps.map (·.1) = qs.map (·.1) → (∀ (j : Nat) (p : Nat × List UInt8), qs[j]? = some p → ∃ v, ps[j]? = some (p.1, v) ∧ R v p.2) →
    (ps.filter fun p => !(p.1 == i)).map (·.1) = (qs.filter fun p => !(p.1 == i)).map (·.1) ∧ ∀ (j : Nat) (p : Nat × List UInt8), (qs.filter fun p => !(p.1 == i))[j]? = some p → ∃ v, (ps.filter fun p => !(p.1 == i))[j]? = some (p.1, v) ∧ R v p.2
  | [], [], _, _ => ⟨rfl, fun j p h => by simp at h⟩
  | [], q :: qs, h, _ => by simp at h
  | p :: ps, [], h, _ => by simp at h
  | p :: ps, q :: qs, h, hp => by
    simp only [List.map_cons, List.cons.injEq] at h
    obtain ⟨v, hv, hR⟩ := hp 0 q rfl
    simp only [List.getElem?_cons_zero, Option.some.injEq] at hv
    subst hv
    obtain ⟨a, c⟩ := kept_pl R i h.2 (fun j x hx => by
      have := hp (j + 1) x (by simpa using hx)
      simpa using this)
    by_cases he : q.1 = i
    · have e1 : (!(q.1 == i)) = false := by simp [he]
      simp only [List.filter_cons, e1, Bool.false_eq_true, if_false]
      exact ⟨a, c⟩
    · have e1 : (!(q.1 == i)) = true := by simp [he]
      simp only [List.filter_cons, e1, if_true, List.map_cons]
      refine ⟨by rw [a], fun j x hx => ?_⟩
      cases j with
      | zero =>
        simp only [List.getElem?_cons_zero, Option.some.injEq] at hx
        subst hx
        exact ⟨v, rfl, hR⟩
      | succ j =>
        simp only [List.getElem?_cons_succ] at hx ⊢
        exact c j x hx
theorem keptTo_end (ps : List (Nat × Value)) (i : Nat) : keptTo ps i ps.length = ps.filter fun p => !(p.1 == i) := by
  unfold keptTo
  rw [List.take_length]
theorem penCells_get (ps : List (Nat × Value)) (cur : Array Value) (h : ∀ t, t < ps.length → cur[t * 2]? = some (.int .i64 ((pen ps t).1 : Int)) ∧ cur[t * 2 + 1]? = some (pen ps t).2) : cur.toList.take (ps.length * 2) = penCells ps := by
  apply List.ext_getElem?
  intro m
  rcases Nat.lt_or_ge m (ps.length * 2) with hm | hm
  · rw [List.getElem?_take, if_pos hm, Array.getElem?_toList]
    obtain ⟨a, c⟩ := h (m / 2) (by omega)
    obtain ⟨a', c'⟩ := penCells_at ps (m / 2) (by omega)
    rcases Nat.mod_two_eq_zero_or_one m with e | e
    · have e2 : m / 2 * 2 = m := by omega
      rw [e2] at a a'
      rw [a, a']
    · have e2 : m / 2 * 2 + 1 = m := by omega
      rw [e2] at c c'
      rw [c, c']
  · rw [List.getElem?_take, if_neg (by omega), List.getElem?_eq_none (by rw [penCells_length]; exact hm)]

/-- The row has been struck, and the disk has its new slice. -/
theorem DiskRep.strike {P : Nat → Prop} {w w3 : World} {b : Nat} {E : Dsk} {g1 : Nat} {cur : Array Value} {gp n cap i : Nat} {ps : List (Nat × Value)} (h : DiskRep P w b E g1 cur (.slice (some ⟨gp, 0, none⟩) n cap) ps) (k : Keeps (· = gp) w w3) (hr : RowAt w3 gp cap (keptTo ps i ps.length))
    (hcap : ps.length ≤ cap) (hmax : cap ≤ maxLen) :
    DiskRep P (w3.setCell ⟨b, 1, none⟩ (.slice (some ⟨gp, 0, none⟩) (keptTo ps i ps.length).length cap)) b { E with pending := E.pending.filter fun p => !(p.1 == i) } g1 cur (.slice (some ⟨gp, 0, none⟩) (keptTo ps i ps.length).length cap) (keptTo ps i ps.length) := by
  have hgb : gp ≠ b := fun e => h.ne2 (by rw [e]; rfl)
  have hgg : gp ≠ g1 := fun e => h.ne3 (by rw [e]; rfl)
  have k2 : Keeps (fun x => x = gp ∨ x = b) w (w3.setCell ⟨b, 1, none⟩ (.slice (some ⟨gp, 0, none⟩) (keptTo ps i ps.length).length cap)) :=
    (k.weaken (F := fun x => x = gp ∨ x = b) (fun _ _ h => .inl h)).trans (Keeps.set1 w3 b 1 _) (fun _ _ h => .inr h)
  have hU : ∀ g cs, (g = gp ∨ g = b) → P g → Blk w g 5 cs → False := fun g cs hg _ hb => h.noBytes g cs (by
    rcases hg with e | e
    · simp [e, Value.ownBlock]
    · simp [e]) hb
  obtain ⟨hm, hq⟩ := kept_pl (fun v l => BytesAt P w v l) i h.pb (fun j p hp => h.pl j p hp)
  have hle := keptTo_le ps i ps.length
  have hlen : (keptTo ps i ps.length).length = (E.pending.filter fun p => !(p.1 == i)).length := by
    have := congrArg List.length hm
    rw [keptTo_end]
    simpa using this
  obtain ⟨cur', hb', hs', hc'⟩ := hr.blk
  refine ⟨?_, h.hg.keeps k2 (by rintro (e | e); exact hgg e.symm; exact h.ne1 e.symm), h.le, fun j l hj => ?_, ?_, ?_, fun j p hp => ?_, fun j hj => h.fresh j (Nat.le_trans k2.size hj)⟩
  · exact (h.hb.keeps k (Ne.symm hgb)).set_ 1 _
  · obtain ⟨v, hv, hB⟩ := h.bl j l hj
    exact ⟨v, hv, hB.keeps k2 hU⟩
  · have hb4 : Blk (w3.setCell ⟨b, 1, none⟩ (.slice (some ⟨gp, 0, none⟩) (keptTo ps i ps.length).length cap)) gp 109 cur' := hb'.far (p := ⟨b, 1, none⟩) hgb _
    rw [← hlen]
    refine ⟨by rw [penCells_length], .inr ⟨gp, cap, cur', rfl, Nat.zero_le _, hb4, by omega, hmax, hs', ?_⟩⟩
    exact penCells_get _ _ hc'
  · show List.map (fun q => q.1) (keptTo ps i ps.length) = List.map (fun q => q.1) (E.pending.filter fun p => !(p.1 == i))
    rw [keptTo_end]
    exact hm
  · obtain ⟨v, hv, hB⟩ := hq j p hp
    refine ⟨v, ?_, hB.keeps k2 hU⟩
    rw [keptTo_end]
    exact hv

end Go.Proofs.Ytbgiklkpinflaaa

namespace Go.Proofs.Ytbgiklkpinflaaa
open Go.RowKit Go.Shelf

theorem DiskRep.row {P : Nat → Prop} {w : World} {b : Nat} {E : Dsk} {g1 : Nat} {cur : Array Value} {pv : Value} {ps : List (Nat × Value)} (h : DiskRep P w b E g1 cur pv ps) (h0 : 0 < ps.length) : ∃ gp cap, pv = .slice (some ⟨gp, 0, none⟩) ps.length cap ∧ ps.length ≤ cap ∧ cap ≤ maxLen ∧ RowAt w gp cap ps := by
  have hpl := h.pslen
  rcases h.own.2 with ⟨_, hn⟩ | ⟨gp, cap, cu, e, _, hb, hn, hm, hs, ht⟩
  · omega
  · refine ⟨gp, cap, by rw [e, hpl], by omega, hm, ⟨cu, hb, hs, fun t htl => ?_⟩⟩
    obtain ⟨a, c⟩ := penCells_at ps t htl
    rw [← ht] at a c
    rw [List.getElem?_take] at a c
    constructor
    · split at a
      · simpa using a
      · cases a
    · split at c
      · simpa using c
      · cases c
theorem DiskRep.slices {P : Nat → Prop} {w : World} {b : Nat} {E : Dsk} {g1 : Nat} {cur : Array Value} {pv : Value} {ps : List (Nat × Value)} (h : DiskRep P w b E g1 cur pv ps) : ∀ p ∈ ps, ∃ B n c, p.2 = .slice B n c := by
  intro p hp
  obtain ⟨j, hj, rfl⟩ := List.getElem_of_mem hp
  have hj' : j < E.pending.length := by rw [← h.pslen]; exact hj
  obtain ⟨v, hv, g, cap, _, e, _⟩ := h.pl j _ (List.getElem?_eq_getElem hj')
  rw [List.getElem?_eq_getElem hj] at hv
  injection hv with hv
  rw [hv]
  exact ⟨_, _, _, e⟩
theorem delete_rep {P : Nat → Prop} {w : World} {b : Nat} {E : Dsk} {g1 : Nat} {cur : Array Value} {pv : Value} {ps : List (Nat × Value)} (h : DiskRep P w b E g1 cur pv ps) (hn : ps.length ≤ 1000000) {i cb : Nat} (hcb : Blk w cb 3 #[.int .i64 (i : Int)]) :
    Calls Try.prog 74 #[pv, .func (.func 75) #[] #[.pointer (some ⟨cb, 0, none⟩)]] w fun e w' =>
      ∃ A n c ps', e = .returned (.slice A n c) ∧ (Value.slice A n c).ownBlock = pv.ownBlock ∧ Keeps (fun x => pv.ownBlock = some x) w w' ∧ DiskRep P (w'.setCell ⟨b, 1, none⟩ (.slice A n c)) b { E with pending := E.pending.filter fun p => !(p.1 == i) } g1 cur (.slice A n c) ps' := by
  have hc : w.cell? ⟨cb, 0, none⟩ = some (.int .i64 (i : Int)) := hcb.cell 0
  by_cases hall : ∀ j, j < ps.length → (pen ps j).1 ≠ i
  · obtain ⟨A, c, rfl, hp⟩ := PenSlice.of_own h.own h.pslen
    refine (delete_none w ps i cb A c hc (by omega) h.slices (fun h0 => let ⟨g, e, _, hp⟩ := hp h0; ⟨g, e, hp⟩) hall).mono ?_
    rintro e w' ⟨rfl, hb⟩
    refine ⟨A, ps.length, c, ps, rfl, rfl, Keeps.of_below hb, ?_⟩
    have hflt : (ps.filter fun p => !(p.1 == i)) = ps := by
      rw [← keptTo_end, keptTo_none (Nat.le_refl _) hall, List.take_length]
    obtain ⟨hm, hq⟩ := kept_pl (fun v l => BytesAt P w v l) i h.pb (fun j p hp => h.pl j p hp)
    have h' := h.keepsB hb (Nat.le_refl _)
    have k4 : Keeps (· = b) w' (w'.setCell ⟨b, 1, none⟩ (.slice A ps.length c)) := Keeps.set1 _ b 1 _
    have hU : ∀ g cs, g = b → P g → Blk w' g 5 cs → False := fun g cs hg _ hb => h'.noBytes g cs (by simp [hg]) hb
    have hlen : (E.pending.filter fun p => !(p.1 == i)).length = E.pending.length := by
      have := congrArg List.length hm
      rw [hflt] at this
      rw [← h.pslen]
      simpa using this.symm
    refine ⟨h'.hb.set_ 1 _, h'.hg.keeps k4 (Ne.symm h'.ne1), h'.le, fun j l hj => ?_, ?_, ?_, fun j p hp => ?_, fun j hj => h'.fresh j (Nat.le_trans k4.size hj)⟩
    · obtain ⟨v, hv, hB⟩ := h'.bl j l hj
      exact ⟨v, hv, hB.keeps k4 hU⟩
    · show World.ownsRow _ _ _ _ _ (E.pending.filter fun p => !(p.1 == i)).length _
      rw [hlen]
      exact ownsRow_keeps h'.own k4 fun g hg e => h'.ne2 (by rw [hg, e])
    · show List.map (fun q => q.1) ps = List.map (fun q => q.1) (E.pending.filter fun p => !(p.1 == i))
      rw [hflt] at hm
      exact hm
    · obtain ⟨v, hv, hB⟩ := hq j p hp
      rw [hflt] at hv
      exact ⟨v, hv, (hB.keeps (Keeps.of_below (F := fun _ => False) hb) (fun _ _ h => h.elim)).keeps k4 hU⟩
  · have hex : ∃ k0, k0 < ps.length ∧ (pen ps k0).1 = i ∧ ∀ j, j < k0 → (pen ps j).1 ≠ i := by
      have hex : ∃ k, k < ps.length ∧ (pen ps k).1 = i := by
        rcases Classical.not_forall.1 hall with ⟨k, hk⟩
        obtain ⟨h1, h2⟩ := Classical.not_imp.1 hk
        exact ⟨k, h1, Classical.not_not.1 h2⟩
      obtain ⟨k, hk⟩ := hex
      induction k using Nat.strongRecOn with
      | ind k ih =>
        by_cases hl : ∃ j, j < k ∧ (pen ps j).1 = i
        · obtain ⟨j, hj, he⟩ := hl
          exact ih j hj ⟨by omega, he⟩
        · exact ⟨k, hk.1, hk.2, fun j hj he => hl ⟨j, hj, he⟩⟩
    obtain ⟨k0, hk0, he, hne⟩ := hex
    obtain ⟨gp, cap, rfl, hcap, hmax, hr⟩ := h.row (by omega)
    have hcg : cb ≠ gp := by
      obtain ⟨cu, hb, _⟩ := hr.blk
      exact hcb.ne_ hb (by decide)
    refine (delete_some w ps i cb gp cap k0 hc hcg (by omega) h.slices hr hcap hk0 he hne).mono ?_
    rintro e w' ⟨rfl, hr', k⟩
    refine ⟨_, _, _, keptTo ps i ps.length, rfl, rfl, k.weaken fun x _ e => ?_, h.strike k hr' hcap hmax⟩
    rw [e]
    rfl

end Go.Proofs.Ytbgiklkpinflaaa

namespace Go.Proofs.Ytbgiklkpinflaaa
open Go.RowKit Go.Shelf

theorem bv_ofNat {x : Int} (h0 : 0 ≤ x) (h1 : x < 256) : bv (UInt8.ofNat x.toNat) = .int .u8 x := by
  unfold bv
  rw [UInt8.toNat_ofNat_of_lt' (by simp [UInt8.size]; omega)]
  congr 1
  omega
/-- One byte of bytes that lie whole in a block is set. -/
theorem BytesAt.set_ {Q : Nat → Prop} {w : World} {g cap : Nat} {l : List UInt8} (h : BytesAt Q w (.slice (some ⟨g, 0, none⟩) l.length cap) l) (k : Nat) (x : UInt8) :
    BytesAt Q (w.setCell ⟨g, k, none⟩ (bv x)) (.slice (some ⟨g, 0, none⟩) l.length cap) (l.set k x) := by
  obtain ⟨g', cap', cur, hv, hq, hb, h1, h2, h3, h4⟩ := h
  injection hv with ha _ hc
  injection ha with ha
  injection ha with ha _ _
  subst ha hc
  refine ⟨g, cap, cur.setIfInBounds k (bv x), by rw [List.length_set], hq, hb.set_ k _, by rw [List.length_set]; exact h1, h2, by rw [Array.size_setIfInBounds]; exact h3, ?_⟩
  rw [List.length_set, Array.toList_setIfInBounds, List.take_set, h4, List.map_set]
/-- A new copy l of block i takes its place, and one byte of the copy is set behind it. -/
theorem DiskRep.spoiled {P : Nat → Prop} {w w2 : World} {b : Nat} {E : Dsk} {g1 : Nat} {cur : Array Value} {pv : Value} {ps : List (Nat × Value)} (h : DiskRep P w b E g1 cur pv ps) (k2 : Keeps (fun _ => False) w w2) {g cap : Nat} {l : List UInt8}
    (hB : BytesAt (w.heap.size ≤ ·) w2 (.slice (some ⟨g, 0, none⟩) l.length cap) l) {i : Nat} (hi : i < E.blocks.length) (k : Nat) (x : UInt8) :
    DiskRep P ((w2.setCell ⟨g1, i, none⟩ (.slice (some ⟨g, 0, none⟩) l.length cap)).setCell ⟨g, k, none⟩ (bv x)) b { E with blocks := E.blocks.set i (l.set k x) } g1 (cur.setIfInBounds i (.slice (some ⟨g, 0, none⟩) l.length cap)) pv ps := by
  have hgs : w.heap.size ≤ g := by
    obtain ⟨g', cap', cur', hv, hq, _⟩ := hB
    injection hv with ha _ _
    injection ha with ha
    injection ha with ha _ _
    rw [ha]; exact hq
  have hlt : ∀ q, q ∈ b :: g1 :: pv.ownBlock.toList → q < w.heap.size := by
    intro q hq
    simp only [List.mem_cons, Option.mem_toList] at hq
    rcases hq with rfl | rfl | hq
    · exact h.hb.lt
    · exact h.hg.lt
    · rcases h.own.2 with ⟨hv, _⟩ | ⟨gq, _, _, hv, _, hg, _⟩
      · rw [hv] at hq; simp [Value.ownBlock] at hq
      · rw [hv] at hq; simp [Value.ownBlock] at hq
        subst hq
        exact Blk.lt (t := 109) hg
  have hne : g1 ≠ g := fun e => by have := hlt g1 (by simp); omega
  have ka : Keeps (· = g) w (w2.setCell ⟨g, k, none⟩ (bv x)) := (k2.weaken (F := (· = g)) (fun _ _ h => h.elim)).setCell (p := ⟨g, k, none⟩) (fun _ => rfl) _
  have ra : DiskRep P (w2.setCell ⟨g, k, none⟩ (bv x)) b E g1 cur pv ps := h.keeps ka (fun q hq e => by have := hlt q hq; omega) (fun q cs e _ hk => by have := hk.lt; omega)
  have rb := ra.setBlock i (l.set k x) (.slice (some ⟨g, 0, none⟩) l.length cap) ((hB.set_ k x).mono fun q hq => h.fresh q hq) hi
  refine rb.keeps (F := fun _ => False) ⟨rfl, rfl, rfl, by simp [World.setCell], fun q hq _ => ?_⟩ (fun _ _ => id) (fun _ _ h => h.elim)
  by_cases e1 : q = g1
  · subst e1
    rw [Below.heap_setCell _ _ _ _ hne]
    simp [World.setCell, Array.getElem?_modify, Ne.symm hne]
  · rw [Below.heap_setCell (w2.setCell ⟨g, k, none⟩ (bv x)) ⟨g1, i, none⟩ _ q e1]
    by_cases e2 : q = g
    · subst e2
      simp [World.setCell, Array.getElem?_modify, hne]
    · rw [Below.heap_setCell w2 ⟨g, k, none⟩ (bv x) q e2, Below.heap_setCell (w2.setCell ⟨g1, i, none⟩ (.slice (some ⟨g, 0, none⟩) l.length cap)) ⟨g, k, none⟩ (bv x) q e2, Below.heap_setCell w2 ⟨g1, i, none⟩ _ q e1]

end Go.Proofs.Ytbgiklkpinflaaa
