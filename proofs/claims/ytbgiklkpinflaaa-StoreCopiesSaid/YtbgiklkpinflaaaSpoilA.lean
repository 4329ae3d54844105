/- Spoil: its closure, slices.IndexFunc at pending writes. Spoil: slices.DeleteFunc at pending writes. Spoil: slices.DeleteFunc, the walk. -/
import Derived.Test.YtbgiklkpinflaaaRefB
import Derived.IntWalk

namespace Go.Proofs.Ytbgiklkpinflaaa
open Go.RowKit Go.Shelf
attribute [local go_sem ↓] Go.wp_at_zero Go.wp_at_succ

set_option maxRecDepth 100000 in
set_option maxHeartbeats 1000000 in
theorem spoil1_calls (w : World) (p i : Nat) (A : Option Addr) (n c cb : Nat) (hc : w.cell? ⟨cb, 0, none⟩ = some (.int .i64 (i : Int))) :
    Calls Try.prog 75 #[.agg #[.int .i64 (p : Int), .slice A n c], .pointer (some ⟨cb, 0, none⟩)] w fun e w' => e = .returned (.bool (p == i)) ∧ Below w.heap.size w w' := by
  have hca : ∀ o, (w.alloc o).cell? ⟨cb, 0, none⟩ = some (.int .i64 (i : Int)) := fun o => Lib.cell?_alloc_some _ hc
  have he : ((p : Int) == (i : Int)) = (p == i) := by
    rw [Bool.eq_iff_iff]
    simp
    omega
  go_enter Try.func75, Try.ntmps75
  go_wp2
  go_ret
  refine ⟨?_, (Below.refl _ w).alloc (Nat.le_refl _) _⟩
  simp [he]

/-- The place of the first write to block i from place k on. -/
def firstAt (ps : List (Nat × Value)) (i : Nat) : Option Nat := ps.findIdx? fun p => p.1 == i
set_option maxRecDepth 100000 in
set_option maxHeartbeats 2000000 in
theorem index_calls (w : World) (ps : List (Nat × Value)) (i cb : Nat) (A : Option Addr) (c : Nat) (hc : w.cell? ⟨cb, 0, none⟩ = some (.int .i64 (i : Int))) (hl : ps.length ≤ 1000000000) (hv : ∀ p ∈ ps, ∃ B n c, p.2 = .slice B n c)
    (hp : 0 < ps.length → ∃ g, A = some ⟨g, 0, none⟩ ∧ ∀ j, j < ps.length → w.cell? ⟨g, j * 2, none⟩ = some (.int .i64 ((pen ps j).1 : Int)) ∧ w.cell? ⟨g, j * 2 + 1, none⟩ = some (pen ps j).2) :
    Calls Try.prog 84 #[.slice A ps.length c, .func (.func 75) #[] #[.pointer (some ⟨cb, 0, none⟩)]] w fun e w' =>
      Below w.heap.size w w' ∧ ((e = .returned (.int .i64 (-1)) ∧ ∀ j, j < ps.length → (pen ps j).1 ≠ i) ∨ ∃ k : Nat, e = .returned (.int .i64 (k : Int)) ∧ k < ps.length ∧ (pen ps k).1 = i ∧ ∀ j, j < k → (pen ps j).1 ≠ i) := by
  have HP := Lib.hid hp
  have HV := Lib.hid hv
  clear hp hv
  go_enter Try.func84, Try.ntmps84
  go_wp2
  go_loopw [5, 8] (fun _ x wr => ∃ k : Nat, k ≤ ps.length ∧ x = .int .i64 k ∧ Below w.heap.size w wr ∧ ∀ j, j < k → (pen ps j).1 ≠ i) (fun _ x _ => ps.length - (intOf x).toNat)
  case atStart => exact ⟨0, Nat.zero_le _, rfl, Below.refl _ _, fun j hj => by omega⟩
  case round =>
    obtain ⟨k, hk, rfl, hB, hne⟩ := hrel
    by_cases hlt : k < ps.length
    · have tk : decide ((k : Int) < (ps.length : Int)) = true := by simp; omega
      obtain ⟨g, rfl, hq⟩ := HP.out (by omega)
      obtain ⟨q1, q2⟩ := hq k hlt
      have hpk : pen ps k ∈ ps := by rw [pen_eq (List.getElem?_eq_getElem hlt)]; exact List.getElem_mem hlt
      obtain ⟨B, n2, c2, hv2⟩ := HV.out _ hpk
      rw [hv2] at q2
      have q1 : wr.cell? ⟨g, k * 2, none⟩ = some (.int .i64 ((pen ps k).1 : Int)) := (hB.cell (World.block_lt_of_cell? w _ q1)).trans q1
      have q2 : wr.cell? ⟨g, k * 2 + 1, none⟩ = some (.slice B n2 c2) := (hB.cell (World.block_lt_of_cell? w _ q2)).trans q2
      have qc : wr.cell? ⟨cb, 0, none⟩ = some (.int .i64 (i : Int)) := (hB.cell (World.block_lt_of_cell? w _ hc)).trans hc
      have HB := Lib.hid hB
      have HNE := Lib.hid hne
      clear hB hne hq hpk hv2
      by_cases he : (pen ps k).1 = i
      · have he2 : ((pen ps k).1 == i) = true := by simpa using he
        have HE := Lib.hid he
        clear he
        go_wp2_with (go_at_call 75; refine (spoil1_calls _ _ i _ _ _ cb qc).mono ?_; rw [he2]; rintro e w2 ⟨rfl, hb2⟩; have HB2 := Lib.hid hb2; clear hb2)
        go_ret
        exact ⟨HB.out.trans (HB2.out.mono HB.out.size), .inr ⟨k, rfl, hlt, HE.out, HNE.out⟩⟩
      · have he2 : ((pen ps k).1 == i) = false := by simpa using he
        have HE := Lib.hid he
        clear he
        go_wp2_with (go_at_call 75; refine (spoil1_calls _ _ i _ _ _ cb qc).mono ?_; rw [he2]; rintro e w2 ⟨rfl, hb2⟩; have HB2 := Lib.hid hb2; clear hb2)
        go_roundw
        case rel =>
          refine ⟨k + 1, by omega, by go_num, HB.out.trans (HB2.out.mono HB.out.size), fun j hj => ?_⟩
          rcases Nat.lt_or_ge j k with h | h
          · exact HNE.out j h
          · have : j = k := by omega
            rw [this]
            exact HE.out
        case measure => simp [intOf]; omega
    · obtain rfl : k = ps.length := by omega
      have tk : decide ((ps.length : Int) < ps.length) = false := by simp
      go_wp2
      go_ret
      exact ⟨hB, .inl ⟨rfl, hne⟩⟩

end Go.Proofs.Ytbgiklkpinflaaa

namespace Go.Proofs.Ytbgiklkpinflaaa
open Go.RowKit Go.Shelf
attribute [local go_sem ↓] Go.wp_at_zero Go.wp_at_succ

/-- The writes to other blocks, of the first j. -/
def keptTo (ps : List (Nat × Value)) (i j : Nat) : List (Nat × Value) := (ps.take j).filter fun p => !(p.1 == i)
theorem keptTo_le (ps : List (Nat × Value)) (i j : Nat) : (keptTo ps i j).length ≤ j := Nat.le_trans (List.length_filter_le _ _) (by rw [List.length_take]; omega)
theorem keptTo_skip {ps : List (Nat × Value)} {i j : Nat} (h : j < ps.length) (he : ps[j].1 = i) : keptTo ps i (j + 1) = keptTo ps i j := by
  unfold keptTo
  rw [List.take_succ_eq_append_getElem h, List.filter_append]
  simp [he]
theorem keptTo_keep {ps : List (Nat × Value)} {i j : Nat} (h : j < ps.length) (he : ps[j].1 ≠ i) : keptTo ps i (j + 1) = keptTo ps i j ++ [ps[j]] := by
  unfold keptTo
  rw [List.take_succ_eq_append_getElem h, List.filter_append]
  simp [he]
theorem keptTo_none {ps : List (Nat × Value)} {i : Nat} : ∀ {j : Nat}, j ≤ ps.length → (∀ t, t < j → (pen ps t).1 ≠ i) → keptTo ps i j = ps.take j
  | 0, _, _ => rfl
  | j + 1, h, hn => by
    have hj : j < ps.length := by omega
    have e := hn j (by omega)
    rw [pen_eq (List.getElem?_eq_getElem hj)] at e
    rw [keptTo_keep hj e, keptTo_none (by omega) fun t ht => hn t (by omega), List.take_succ_eq_append_getElem hj]
/-- The row of pending writes, where j of them have been looked at. -/
def Deleting (w : World) (gp cap : Nat) (ps : List (Nat × Value)) (i j : Nat) (wr : World) : Prop :=
  (∃ cur : Array Value, Blk wr gp 109 cur ∧ cur.size = cap * 2 ∧
    (∀ t, t < (keptTo ps i j).length → cur[t * 2]? = some (.int .i64 ((pen (keptTo ps i j) t).1 : Int)) ∧ cur[t * 2 + 1]? = some (pen (keptTo ps i j) t).2) ∧
    (∀ t, j ≤ t → t < ps.length → cur[t * 2]? = some (.int .i64 ((pen ps t).1 : Int)) ∧ cur[t * 2 + 1]? = some (pen ps t).2)) ∧ Keeps (· = gp) w wr
theorem Deleting.at_ {w wr : World} {gp cap i j t : Nat} {ps : List (Nat × Value)} (h : Deleting w gp cap ps i j wr) (h1 : j ≤ t) (h2 : t < ps.length) : wr.cell? ⟨gp, t * 2, none⟩ = some (.int .i64 ((pen ps t).1 : Int)) ∧ wr.cell? ⟨gp, t * 2 + 1, none⟩ = some (pen ps t).2 := by
  obtain ⟨⟨cur, hb, _, _, hc⟩, _⟩ := h
  exact ⟨(hb.cell _).trans (hc t h1 h2).1, (hb.cell _).trans (hc t h1 h2).2⟩
theorem Deleting.has {w wr : World} {gp cap i j t : Nat} {ps : List (Nat × Value)} (h : Deleting w gp cap ps i j wr) (ht : t < cap * 2) : (∃ v, wr.cell? ⟨gp, t, none⟩ = some v) ∧ wr.frozen? ⟨gp, t, none⟩ = false := by
  obtain ⟨⟨cur, hb, hs, _⟩, _⟩ := h
  exact ⟨⟨_, (hb.cell t).trans (Array.getElem?_eq_getElem (by omega))⟩, hb.frozen t⟩
theorem Deleting.below {w wr w2 : World} {gp cap i j : Nat} {ps : List (Nat × Value)} (h : Deleting w gp cap ps i j wr) (hb : Below wr.heap.size wr w2) : Deleting w gp cap ps i j w2 := by
  obtain ⟨⟨cur, h1, h2⟩, k⟩ := h
  exact ⟨⟨cur, h1.below hb h1.lt, h2⟩, k.trans (Keeps.of_below (F := fun _ => False) hb) (fun _ _ h => h.elim)⟩
theorem Deleting.skip {w wr : World} {gp cap i j : Nat} {ps : List (Nat × Value)} (h : Deleting w gp cap ps i j wr) (hj : j < ps.length) (he : (pen ps j).1 = i) : Deleting w gp cap ps i (j + 1) wr := by
  rw [pen_eq (List.getElem?_eq_getElem hj)] at he
  obtain ⟨⟨cur, h1, h2, h3, h4⟩, k⟩ := h
  refine ⟨⟨cur, h1, h2, ?_, fun t ht => h4 t (by omega)⟩, k⟩
  rw [keptTo_skip hj he]
  exact h3
theorem Deleting.keep {w wr : World} {gp cap i j : Nat} {ps : List (Nat × Value)} (h : Deleting w gp cap ps i j wr) (hj : j < ps.length) (hcap : ps.length ≤ cap) (he : (pen ps j).1 ≠ i) :
    Deleting w gp cap ps i (j + 1) ((wr.setCell ⟨gp, (keptTo ps i j).length * 2, none⟩ (.int .i64 ((pen ps j).1 : Int))).setCell ⟨gp, (keptTo ps i j).length * 2 + 1, none⟩ (pen ps j).2) := by
  have he' := he
  rw [pen_eq (List.getElem?_eq_getElem hj)] at he'
  have hq := keptTo_le ps i j
  obtain ⟨⟨cur, h1, h2, h3, h4⟩, k⟩ := h
  obtain ⟨q, hqe⟩ : ∃ q, q = (keptTo ps i j).length := ⟨_, rfl⟩
  rw [← hqe] at hq ⊢
  refine ⟨⟨_, (h1.set_ (q * 2) _).set_ (q * 2 + 1) _, by simpa using h2, ?_, ?_⟩, (k.setCell (p := ⟨gp, q * 2, none⟩) (fun _ => rfl) _).setCell (p := ⟨gp, q * 2 + 1, none⟩) (fun _ => rfl) _⟩
  · intro t ht
    rw [keptTo_keep hj he'] at ht ⊢
    rw [List.length_append, List.length_singleton, ← hqe] at ht
    rcases Nat.lt_or_ge t q with h | h
    · have e : pen (keptTo ps i j ++ [ps[j]]) t = pen (keptTo ps i j) t := by
        have h5 : (keptTo ps i j)[t]? = some (keptTo ps i j)[t] := List.getElem?_eq_getElem (by omega)
        rw [pen_eq h5]
        exact pen_eq (by rw [List.getElem?_append_left (by omega)]; exact h5)
      rw [e]
      obtain ⟨a, b⟩ := h3 t (by omega)
      constructor
      · rw [Array.getElem?_setIfInBounds_ne (by omega), Array.getElem?_setIfInBounds_ne (by omega)]
        exact a
      · rw [Array.getElem?_setIfInBounds_ne (by omega), Array.getElem?_setIfInBounds_ne (by omega)]
        exact b
    · have e0 : t = q := by omega
      subst e0
      have e : pen (keptTo ps i j ++ [ps[j]]) t = pen ps j := by
        rw [pen_eq (List.getElem?_eq_getElem hj)]
        exact pen_eq (by rw [List.getElem?_append_right (by omega)]; simp [hqe])
      rw [e]
      constructor
      · rw [Array.getElem?_setIfInBounds_ne (by omega), Array.getElem?_setIfInBounds_self_of_lt (by omega)]
      · rw [Array.getElem?_setIfInBounds_self_of_lt (by simp; omega)]
  · intro t ht ht2
    obtain ⟨a, b⟩ := h4 t (by omega) ht2
    constructor
    · rw [Array.getElem?_setIfInBounds_ne (by omega), Array.getElem?_setIfInBounds_ne (by omega)]
      exact a
    · rw [Array.getElem?_setIfInBounds_ne (by omega), Array.getElem?_setIfInBounds_ne (by omega)]
      exact b

end Go.Proofs.Ytbgiklkpinflaaa

namespace Go.Proofs.Ytbgiklkpinflaaa
open Go.RowKit Go.Shelf
attribute [local go_sem ↓] Go.wp_at_zero Go.wp_at_succ

theorem Blk.setCells {g : Nat} {t : TypeId} : ∀ (vs : List Value) (o : Nat) {w : World} {cs : Array Value}, Blk w g t cs → ∃ cs', Blk (w.setCells g o vs) g t cs' ∧ cs'.size = cs.size ∧ ∀ k, k < o → cs'[k]? = cs[k]?
  | [], _, _, cs, h => ⟨cs, h, rfl, fun _ _ => rfl⟩
  | v :: r, o, w, cs, h => by
    obtain ⟨cs', h1, h2, h3⟩ := Blk.setCells r (o + 1) (h.set_ o v)
    refine ⟨cs', h1, by simpa using h2, fun k hk => ?_⟩
    rw [h3 k (by omega), Array.getElem?_setIfInBounds_ne (by omega)]
theorem Keeps.setCells (g : Nat) : ∀ (vs : List Value) (o : Nat) (w : World), Keeps (· = g) w (w.setCells g o vs)
  | [], _, w => Keeps.refl _ w
  | v :: r, o, w => (Keeps.set1 w g o v).trans (Keeps.setCells g r (o + 1) _) (fun _ _ h => h)
/-- clear, of writes. -/
theorem clear_run (w : World) (g o m c : Nat) (hm : 0 < m) (hc : ∀ j, j < m * 2 → (∃ v, w.cell? ⟨g, o + j, none⟩ = some v) ∧ w.frozen? ⟨g, o + j, none⟩ = false) :
    ∃ vs, ∀ ty : TypeId, (Builtin.clear_ #[97] ty #[.slice (some ⟨g, o, none⟩) m c]).run Try.prog w = .ok (.tuple #[]) (w.setCells g o vs) := by
  refine ⟨(Builtin.zeroCells (Value.agg #[.int .i64 0, .slice none 0 0]).cells m).toList, fun ty => ?_⟩
  have hl : (Builtin.zeroCells (Value.agg #[.int .i64 0, .slice none 0 0]).cells m).toList.length = m * 2 := by
    simp [Builtin.zeroCells, Value.cells]
  have h1 : ∀ v ∈ (Builtin.zeroCells (Value.agg #[.int .i64 0, .slice none 0 0]).cells m).toList, v.oneCell' = true := by
    intro v hv
    simp only [Builtin.zeroCells, Value.cells, Array.toList_map, List.mem_map] at hv
    obtain ⟨k, _, rfl⟩ := hv
    rcases Nat.mod_two_eq_zero_or_one k with h | h <;> simp [h, Value.oneCell']
  have hst := run_storeCells_cells (P := Try.prog) g o (Builtin.zeroCells (Value.agg #[.int .i64 0, .slice none 0 0]).cells m).toList 0 w (fun j hj => by obtain ⟨⟨v, e⟩, _⟩ := hc j (by omega); simp [e]) (fun j hj => (hc j (by omega)).2) h1
  simp only [Nat.add_zero] at hst
  have hv := Try.zeroValue109
  have ht := Try.underlying97
  obtain ⟨m, rfl⟩ : ∃ k, m = k + 1 := ⟨m - 1, by omega⟩
  simp [Builtin.clear_, run_underlying ht, hv, hst]

/-- The row as slices.DeleteFunc finds it. -/
structure RowAt (w : World) (gp cap : Nat) (ps : List (Nat × Value)) : Prop where
  blk : ∃ cur, Blk w gp 109 cur ∧ cur.size = cap * 2 ∧ ∀ t, t < ps.length → cur[t * 2]? = some (.int .i64 ((pen ps t).1 : Int)) ∧ cur[t * 2 + 1]? = some (pen ps t).2
theorem RowAt.at_ {w : World} {gp cap : Nat} {ps : List (Nat × Value)} (h : RowAt w gp cap ps) : ∀ j, j < ps.length → w.cell? ⟨gp, j * 2, none⟩ = some (.int .i64 ((pen ps j).1 : Int)) ∧ w.cell? ⟨gp, j * 2 + 1, none⟩ = some (pen ps j).2 := by
  obtain ⟨cur, hb, _, hc⟩ := h.blk
  exact fun j hj => ⟨(hb.cell _).trans (hc j hj).1, (hb.cell _).trans (hc j hj).2⟩
theorem Deleting.start {w w1 : World} {gp cap i k : Nat} {ps : List (Nat × Value)} (h : RowAt w gp cap ps) (hb : Below w.heap.size w w1) (hk : k < ps.length) (he : (pen ps k).1 = i) (hn : ∀ j, j < k → (pen ps j).1 ≠ i) : Deleting w gp cap ps i (k + 1) w1 ∧ (keptTo ps i (k + 1)).length = k := by
  obtain ⟨cur, h1, h2, h3⟩ := h.blk
  rw [pen_eq (List.getElem?_eq_getElem hk)] at he
  have e : keptTo ps i (k + 1) = ps.take k := by rw [keptTo_skip hk he, keptTo_none (by omega) hn]
  have hl : (ps.take k).length = k := by rw [List.length_take]; omega
  refine ⟨⟨⟨cur, h1.below hb h1.lt, h2, ?_, fun t _ ht => h3 t ht⟩, Keeps.of_below hb⟩, by rw [e, hl]⟩
  rw [e]
  intro t ht
  rw [hl] at ht
  have e2 : pen (ps.take k) t = pen ps t := by
    unfold pen
    rw [List.getElem?_take, if_pos ht]
  rw [e2]
  exact h3 t (by omega)

set_option maxRecDepth 100000 in
set_option maxHeartbeats 2000000 in
theorem delete_none (w : World) (ps : List (Nat × Value)) (i cb : Nat) (A : Option Addr) (c : Nat) (hc : w.cell? ⟨cb, 0, none⟩ = some (.int .i64 (i : Int))) (hl : ps.length ≤ 1000000000) (hv : ∀ p ∈ ps, ∃ B n c, p.2 = .slice B n c)
    (hp : 0 < ps.length → ∃ g, A = some ⟨g, 0, none⟩ ∧ ∀ j, j < ps.length → w.cell? ⟨g, j * 2, none⟩ = some (.int .i64 ((pen ps j).1 : Int)) ∧ w.cell? ⟨g, j * 2 + 1, none⟩ = some (pen ps j).2) (hall : ∀ j, j < ps.length → (pen ps j).1 ≠ i) :
    Calls Try.prog 74 #[.slice A ps.length c, .func (.func 75) #[] #[.pointer (some ⟨cb, 0, none⟩)]] w fun e w' => e = .returned (.slice A ps.length c) ∧ Below w.heap.size w w' := by
  have HI : Hid (Calls Try.prog 84 #[.slice A ps.length c, .func (.func 75) #[] #[.pointer (some ⟨cb, 0, none⟩)]] w fun e w' => e = .returned (.int .i64 (-1)) ∧ Below w.heap.size w w') :=
    (index_calls w ps i cb A c hc hl hv hp).mono fun e w' ⟨hb, h⟩ => by
      rcases h with ⟨rfl, _⟩ | ⟨k, _, hk, he, _⟩
      · exact ⟨rfl, hb⟩
      · exact absurd he (hall k hk)
  clear hv hp hall
  go_enter Try.func74, Try.ntmps74
  go_wp2_with (go_at_call 84; refine HI.out.mono ?_; rintro e w1 ⟨rfl, hb1⟩; have HB1 := Lib.hid hb1; clear hb1)
  go_ret
  exact ⟨rfl, HB1.out⟩

set_option maxRecDepth 100000 in
set_option maxHeartbeats 4000000 in
theorem delete_some (w : World) (ps : List (Nat × Value)) (i cb gp cap k0 : Nat) (hc : w.cell? ⟨cb, 0, none⟩ = some (.int .i64 (i : Int))) (hcg : cb ≠ gp) (hl : ps.length ≤ 1000000000) (hv : ∀ p ∈ ps, ∃ B n c, p.2 = .slice B n c) (hr : RowAt w gp cap ps) (hcap : ps.length ≤ cap)
    (hk : k0 < ps.length) (he : (pen ps k0).1 = i) (hn : ∀ j, j < k0 → (pen ps j).1 ≠ i) :
    Calls Try.prog 74 #[.slice (some ⟨gp, 0, none⟩) ps.length cap, .func (.func 75) #[] #[.pointer (some ⟨cb, 0, none⟩)]] w fun e w' =>
      e = .returned (.slice (some ⟨gp, 0, none⟩) (keptTo ps i ps.length).length cap) ∧ RowAt w' gp cap (keptTo ps i ps.length) ∧ Keeps (· = gp) w w' := by
  have HI : Hid (Calls Try.prog 84 #[.slice (some ⟨gp, 0, none⟩) ps.length cap, .func (.func 75) #[] #[.pointer (some ⟨cb, 0, none⟩)]] w fun e w' => e = .returned (.int .i64 (k0 : Int)) ∧ Below w.heap.size w w') :=
    (index_calls w ps i cb _ cap hc (by omega) hv (fun _ => ⟨gp, rfl, hr.at_⟩)).mono fun e w' ⟨hb, h⟩ => by
      rcases h with ⟨_, h⟩ | ⟨k, rfl, hk2, he2, hn2⟩
      · exact absurd he (h k0 hk)
      · have : k = k0 := by
          rcases Nat.lt_trichotomy k k0 with h | h | h
          · exact absurd he2 (hn k h)
          · exact h
          · exact absurd he (hn2 k0 h)
        rw [this]
        exact ⟨rfl, hb⟩
  have HST := Lib.hid (fun w1 (hb : Below w.heap.size w w1) => Deleting.start hr hb hk he hn)
  have HV := Lib.hid hv
  have HE := Lib.hid he
  have t0 : ((k0 : Int) == -1) = false := by rw [beq_eq_false_iff_ne]; omega
  clear hv hr he hn
  go_enter Try.func74, Try.ntmps74
  go_wp2_with (go_at_call 84; refine HI.out.mono ?_; rintro e w1 ⟨rfl, hb1⟩; have HB1 := Lib.hid hb1; clear hb1)
  go_loopw [5, 6, 7] (fun q x _ wr => ∃ j : Nat, k0 < j ∧ j ≤ ps.length ∧ x = .int .i64 j ∧ q = .int .i64 ((keptTo ps i j).length : Int) ∧ (keptTo ps i j).length < j ∧ Deleting w gp cap ps i j wr) (fun _ x _ _ => ps.length - (intOf x).toNat)
  case atStart =>
    obtain ⟨h1, h2⟩ := HST.out w1 HB1.out
    exact ⟨k0 + 1, by omega, by omega, by go_num, by rw [h2], by omega, h1⟩
  case round =>
    obtain ⟨j, hj0, hj, rfl, rfl, hq, hD⟩ := hrel
    have hcr : wr.cell? ⟨cb, 0, none⟩ = some (.int .i64 (i : Int)) := hD.2.cell hc hcg
    have hgl : gp < wr.heap.size := by
      obtain ⟨⟨cur, hb, _⟩, _⟩ := hD
      exact hb.lt
    by_cases hlt : j < ps.length
    · have tk : decide ((j : Int) < (ps.length : Int)) = true := by simp; omega
      obtain ⟨q1, q2⟩ := hD.at_ (Nat.le_refl _) hlt
      have hpk : pen ps j ∈ ps := by rw [pen_eq (List.getElem?_eq_getElem hlt)]; exact List.getElem_mem hlt
      obtain ⟨B, n2, c2, hv2⟩ := HV.out _ hpk
      have HV2 := Lib.hid hv2
      rw [hv2] at q2
      have hcra : ∀ o, (wr.alloc o).cell? ⟨cb, 0, none⟩ = some (.int .i64 (i : Int)) := fun o => Lib.cell?_alloc_some _ hcr
      obtain ⟨o, ho⟩ : ∃ o : Obj, o = .cells #[.int .i64 ((pen ps j).1 : Int), .slice B n2 c2] 109 := ⟨_, rfl⟩
      have hbo : Blk (wr.alloc o) wr.heap.size 109 #[.int .i64 ((pen ps j).1 : Int), .slice B n2 c2] := by rw [ho]; exact Blk.new wr _ _
      have hDa : Deleting w gp cap ps i j (wr.alloc o) := hD.below ((Below.refl _ wr).alloc (Nat.le_refl _) o)
      have HDA := Lib.hid hDa
      have HBO := Lib.hid hbo
      rw [ho] at hbo hDa HDA HBO
      obtain ⟨q, hqe⟩ : ∃ q, q = (keptTo ps i j).length := ⟨_, rfl⟩
      have HQ := Lib.hid hqe
      rw [← hqe] at hq ⊢
      clear hpk hv2 hD ho hbo hDa hqe
      by_cases he : (pen ps j).1 = i
      · have he2 : ((pen ps j).1 == i) = true := by simpa using he
        have HEJ := Lib.hid he
        clear he
        go_wp2_with (go_at_call 75; refine (spoil1_calls _ _ i _ _ _ cb (hcra _)).mono ?_; rw [he2]; rintro e w2 ⟨rfl, hb2⟩; have HB2 := Lib.hid hb2; clear hb2)
        go_roundw
        case rel => exact ⟨j + 1, by omega, by omega, by go_num, by rw [HQ.out, keptTo_skip hlt (by have := HEJ.out; rw [pen_eq (List.getElem?_eq_getElem hlt)] at this; exact this)], by rw [keptTo_skip hlt (by have := HEJ.out; rw [pen_eq (List.getElem?_eq_getElem hlt)] at this; exact this), ← HQ.out]; omega, (HDA.out.skip hlt HEJ.out).below HB2.out⟩
        case measure => simp [intOf]; omega
      · have he2 : ((pen ps j).1 == i) = false := by simpa using he
        have HEJ := Lib.hid he
        have hwr2 : IntKind.i64.wrap ((q : Int) + 1) = (q : Int) + 1 := IntWalk.i64_in _ (by omega)
        clear he
        go_wp2_with (go_at_call 75; refine (spoil1_calls _ _ i _ _ _ cb (hcra _)).mono ?_; rw [he2]; rintro e w2 ⟨rfl, hb2⟩; have HD2 := Lib.hid (HDA.out.below hb2); have HBO2 := Lib.hid (HBO.out.below hb2 HBO.out.lt); have z0 : w2.cell? ⟨wr.heap.size, 0, none⟩ = some (.int .i64 ((pen ps j).1 : Int)) := HBO2.out.cell 0; have z1 : w2.cell? ⟨wr.heap.size, 1, none⟩ = some (.slice B n2 c2) := HBO2.out.cell 1; obtain ⟨⟨y0, x0⟩, f0⟩ := HD2.out.has (t := q * 2) (by omega); obtain ⟨⟨y1, x1⟩, f1⟩ := HD2.out.has (t := q * 2 + 1) (by omega); clear hb2)
        go_roundw
        case rel =>
          have hkp := HD2.out.keep hlt hcap HEJ.out
          have hln : (keptTo ps i (j + 1)).length = q + 1 := by
            have := HEJ.out
            rw [pen_eq (List.getElem?_eq_getElem hlt)] at this
            rw [keptTo_keep hlt this, List.length_append, ← HQ.out]
            rfl
          rw [← HQ.out, HV2.out] at hkp
          exact ⟨j + 1, by omega, by omega, by go_num, by rw [hln]; go_num, by rw [hln]; omega, hkp⟩
        case measure => simp [intOf]; omega
    · obtain rfl : j = ps.length := by omega
      have tk : decide ((ps.length : Int) < ps.length) = false := by simp
      obtain ⟨q, hqe⟩ : ∃ q, q = (keptTo ps i ps.length).length := ⟨_, rfl⟩
      have HQ := Lib.hid hqe
      rw [← hqe] at hq ⊢
      have hqc : ¬ cap = q := by omega
      obtain ⟨vs, hcl⟩ : ∃ vs, ∀ ty, (Builtin.clear_ #[97] ty #[.slice (some ⟨gp, q * 2, none⟩) (ps.length - q) (cap - q)]).run Try.prog wr = .ok (.tuple #[]) (wr.setCells gp (q * 2) vs) := by
        exact clear_run wr gp (q * 2) (ps.length - q) (cap - q) (by omega) (fun t ht => hD.has (by omega))
      have HD := Lib.hid hD
      clear hD hqe
      go_wp2
      go_ret
      have hqe := HQ.out
      subst hqe
      obtain ⟨⟨cur, h1, h2, h3, _⟩, k⟩ := HD.out
      obtain ⟨cur', d1, d2, d3⟩ := Blk.setCells vs ((keptTo ps i ps.length).length * 2) h1
      exact ⟨rfl, ⟨cur', d1, by rw [d2, h2], fun t ht => ⟨(d3 (t * 2) (by omega)).trans (h3 t ht).1, (d3 (t * 2 + 1) (by omega)).trans (h3 t ht).2⟩⟩, k.trans (Keeps.setCells gp vs _ wr) (fun _ _ h => h)⟩

end Go.Proofs.Ytbgiklkpinflaaa
