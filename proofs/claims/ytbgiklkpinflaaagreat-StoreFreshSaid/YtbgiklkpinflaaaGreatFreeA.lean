/- free: plain facts. free. Free. -/
import Derived.Test.YtbgiklkpinflaaaGreatPut2

namespace Go.Proofs.YtbgiklkpinflaaaGreat
open Go.RowKit Go.Shelf Go.Maps

/-- Which blocks a state has. -/
def stHas (st : St) (i : Nat) : Bool := st.index.contains i || st.places.any fun x => x.2.blocks.contains i
def takenBy (sts : List St) (i : Nat) : Bool := sts.any fun st => stHas st i
def freeOf (n : Nat) (sts : List St) : List Nat := (List.range n).filter fun i => decide (2 ≤ i) && !takenBy sts i
def tkCells (n : Nat) (M : Nat → Bool) : Array Value := ((List.range n).map fun i => Value.bool (M i)).toArray
theorem tkCells_size (n : Nat) (M : Nat → Bool) : (tkCells n M).size = n := by simp [tkCells]
theorem tkCells_get (n : Nat) (M : Nat → Bool) {i : Nat} (h : i < n) : (tkCells n M)[i]? = some (.bool (M i)) := by simp [tkCells, h]
theorem tkCells_set (n : Nat) (M : Nat → Bool) {b : Nat} (_h : b < n) : (tkCells n M).setIfInBounds b (.bool true) = tkCells n (fun i => M i || i == b) := by
  apply Array.ext
  · simp [tkCells]
  · intro i h1 h2
    have hi : i < n := by simpa [tkCells] using h2
    rw [Array.getElem_setIfInBounds (by simpa [tkCells] using h2)]
    by_cases e : b = i
    · subst e
      simp [tkCells]
    · rw [if_neg e]
      have : (i == b) = false := by simpa using fun h => e h.symm
      simp [tkCells, this]
theorem tkCells_none (n : Nat) : ((madeCells #[Value.bool false] n)).toList = (tkCells n (fun _ => false)).toList := by
  rw [madeCells_one]
  simp only [tkCells]
  apply List.ext_getElem
  · simp
  · intro i h1 h2
    simp
/-- The block of marks. -/
def Marks (w0 : World) (tb n : Nat) (M : Nat → Bool) (wr : World) : Prop := Blk wr tb 4 (tkCells n M) ∧ Keeps (· = tb) w0 wr
theorem Marks.set {w0 wr : World} {tb n b : Nat} {M : Nat → Bool} (h : Marks w0 tb n M wr) (hb : b < n) : Marks w0 tb n (fun i => M i || i == b) (wr.setCell ⟨tb, b, none⟩ (.bool true)) := by
  refine ⟨?_, h.2.setCell (p := ⟨tb, b, none⟩) (fun _ => rfl) _⟩
  rw [← tkCells_set n M hb]
  exact h.1.set_ b _
theorem Marks.below {w0 wr w1 : World} {tb n : Nat} {M : Nat → Bool} (h : Marks w0 tb n M wr) (hb : Below wr.heap.size wr w1) : Marks w0 tb n M w1 :=
  ⟨h.1.below hb h.1.lt, h.2.trans (Keeps.of_below (F := fun _ => False) hb) (fun _ _ h => h.elim)⟩
theorem Marks.keeps {w0 wr w1 : World} {tb n : Nat} {M : Nat → Bool} (h : Marks w0 tb n M wr) (k : Keeps (fun _ => False) wr w1) : Marks w0 tb n M w1 := h.below k.below
theorem Marks.congr {w0 wr : World} {tb n : Nat} {M M' : Nat → Bool} (h : Marks w0 tb n M wr) (e : ∀ i, M i = M' i) : Marks w0 tb n M' wr := by
  have : M = M' := funext e
  rw [← this]
  exact h

def M3 (T : Nat → Bool) (l : List Nat) (i : Nat) : Bool := T i || l.contains i
theorem M3_step (T : Nat → Bool) (l : List Nat) {j : Nat} (h : j < l.length) (i : Nat) : (M3 T (l.take j) i || i == l[j]) = M3 T (l.take (j + 1)) i := by
  unfold M3
  rw [List.take_succ_eq_append_getElem h, List.contains_append, Bool.or_assoc]
  rw [List.contains_cons, List.contains_nil, Bool.or_false]
/-- Marked: T, and what the places have that are no longer to come. -/
def M4 (T : Nat → Bool) (ps : List (List UInt8 × Place)) (rem : List (List UInt8 × Value)) (i : Nat) : Bool := T i || ps.any fun x => !(rem.any fun y => y.1 == x.1) && x.2.blocks.contains i
theorem M4_start (T : Nat → Bool) {ps : List (List UInt8 × Place)} {M : List (List UInt8 × Value)} (h : ∀ x ∈ ps, (mget M x.1).isSome = true) (i : Nat) : T i = M4 T ps M i := by
  unfold M4
  have : (ps.any fun x => !(M.any fun y => y.1 == x.1) && x.2.blocks.contains i) = false := by
    rw [List.any_eq_false]
    intro x hx
    have h1 := h x hx
    unfold mget at h1
    rw [Option.isSome_map, List.isSome_find?] at h1
    simp [h1]
  rw [this, Bool.or_false]
theorem M4_end (T : Nat → Bool) (ps : List (List UInt8 × Place)) (i : Nat) : M4 T ps [] i = (T i || ps.any fun x => x.2.blocks.contains i) := by
  unfold M4
  simp
theorem M4_step (T : Nat → Bool) {ps : List (List UInt8 × Place)} {rem : List (List UInt8 × Value)} {k : List UInt8} {p : Place} (hs : Srt ps) (hk : mget ps k = some p) (i : Nat) : M3 (M4 T ps rem) p.blocks i = M4 T ps (mdel rem k) i := by
  unfold M3 M4
  rw [Bool.or_assoc]
  congr 1
  rw [Bool.eq_iff_iff]
  simp only [Bool.or_eq_true, List.any_eq_true, Bool.and_eq_true, Bool.not_eq_true', List.any_eq_false]
  have huniq : ∀ x ∈ ps, x.1 = k → x.2 = p := by
    intro x hx e
    obtain ⟨j, hj⟩ := List.getElem?_of_mem hx
    have := mget_at hs hj
    rw [e, hk] at this
    injection this with this
    exact this.symm
  constructor
  · rintro (⟨x, hx, h1, h2⟩ | h)
    · exact ⟨x, hx, fun y hy => h1 y (mdel_mem hy).1, h2⟩
    · exact ⟨(k, p), mget_mem hk, fun y hy => by simpa using (mdel_mem hy).2, h⟩
  · rintro ⟨x, hx, h1, h2⟩
    by_cases e : x.1 = k
    · exact .inr (by rw [← huniq x hx e]; exact h2)
    · refine .inl ⟨x, hx, fun y hy => ?_, h2⟩
      by_cases e2 : y.1 = k
      · simp [e2]; exact fun h => e h.symm
      · exact h1 y (List.mem_filter.2 ⟨hy, by simpa using e2⟩)

theorem takenBy_take (sts : List St) {k : Nat} (h : k < sts.length) (i : Nat) : (takenBy (sts.take k) i || stHas sts[k] i) = takenBy (sts.take (k + 1)) i := by
  unfold takenBy
  rw [List.take_succ_eq_append_getElem h, List.any_append]
  simp

end Go.Proofs.YtbgiklkpinflaaaGreat

namespace Go.Proofs.YtbgiklkpinflaaaGreat
open Go.RowKit Go.Shelf Go.Maps
attribute [local go_sem ↓] Go.wp_at_zero Go.wp_at_succ

theorem Tryz.infoBool : (Tryz.prog.info? 4).map (fun i => (i.zero, i.size, i.bytes)) = some (some (.bool false), 1, 1) := by kernel_rfl
theorem Tryz.infoStatePtr : (Tryz.prog.info? 96).map (fun i => (i.zero, i.size, i.bytes)) = some (some (.pointer none), 1, 8) := by kernel_rfl
theorem Tryz.infoInt : (Tryz.prog.info? 3).map (fun i => (i.zero, i.size, i.bytes)) = some (some (.int .i64 0), 1, 8) := by kernel_rfl

/-- The pins of a store in memory. -/
structure PinsAt (w : World) (s : Nat) (pv : Value) (pins : List PinPlace) (sts : List St) : Prop where
  own : w.ownsRow 0 31 1 pv pins.length (ptrs pins)
  len : pins.length = sts.length
  pat : ∀ (i : Nat) (q : PinPlace) (st : St), pins[i]? = some q → sts[i]? = some st → Blk w q.1 103 #[.pointer (some ⟨s, 0, none⟩), .pointer (some ⟨q.2.1, 0, none⟩)] ∧ StateAt w q.2.1 q.2.2 st

/-- A slice value with a row of pointers behind it. -/
theorem own_slice {w : World} {base n : Nat} {e : TypeId} {v : Value} {xs : List Value} (h : w.ownsRow base e 1 v n xs) : ∃ A c, v = .slice A n c ∧ (0 < n → ∃ g, A = some ⟨g, 0, none⟩ ∧ v.ownBlock = some g ∧ ∃ cur, Blk w g e cur ∧ ∀ j u, xs[j]? = some u → w.cell? ⟨g, j, none⟩ = some u) := by
  rcases h.2 with h1 | ⟨g, cap, cur, rfl, hb, hg, hnc, hcm, hcs, ht⟩
  · exact ⟨none, 0, by rw [h1.1, h1.2], fun h => by have := h1.2; omega⟩
  · refine ⟨_, cap, rfl, fun _ => ⟨g, rfl, by simp [Value.ownBlock], cur, hg, fun j u hj => ?_⟩⟩
    have := take_cells (t := e) hg ht j u hj
    rwa [Nat.zero_add] at this

/-- The state's places. -/
def stPtrs (a : Nat) (pins : List PinPlace) : List Value := .pointer (some ⟨a, 0, none⟩) :: pins.map fun q => .pointer (some ⟨q.2.1, 0, none⟩)

def Listed (w w1 : World) (tb n : Nat) (xs : List Value) (k : Nat) (v : Value) (wr : World) : Prop :=
  wr.ownsRow w1.heap.size 96 1 v (k + 1) (xs.take (k + 1)) ∧ Marks w1 tb n (fun _ => false) wr ∧ Below w.heap.size w wr

theorem tk_start {w w1 : World} {n : Nat} (h : w1.ownsRow w.heap.size 4 1 (.slice (some ⟨w.heap.size, 0, none⟩) n n) n (madeCells (Value.bool false).cells (n * 1)).toList) : Blk w1 w.heap.size 4 (tkCells n fun _ => false) := by
  rcases h.2 with h1 | ⟨g, cap, cur, e, hb, hg, hnc, hcm, hcs, ht⟩
  · cases h1.1
  · cases e
    have e1 : (Value.bool false).cells = #[.bool false] := rfl
    rw [e1, Nat.mul_one, tkCells_none] at ht
    have : cur = tkCells n fun _ => false := by
      apply Array.toList_inj.1
      rw [List.take_of_length_le (by simp; omega)] at ht
      exact ht
    rw [← this]
    exact hg
theorem listed_start {w w1 : World} {a n : Nat} {pins : List PinPlace} (hB : Below w.heap.size w w1) (hT : Blk w1 w.heap.size 4 (tkCells n fun _ => false)) :
    Listed w w1 w.heap.size n (stPtrs a pins) 0 (.slice (some ⟨w1.heap.size, 0, none⟩) 1 1) (w1.alloc (.cells #[.pointer (some ⟨a, 0, none⟩)] 96)) :=
  ⟨own_of_blk (Blk.new w1 _ _) (Nat.le_refl _) (Nat.le_refl _) (by unfold maxLen; decide) rfl rfl, Marks.below ⟨hT, Keeps.refl _ _⟩ ((Below.refl _ w1).alloc (Nat.le_refl _) _), hB.alloc (by have := hB.size; exact this) _⟩
theorem listed_step {w w1 wr w2 : World} {tb n k : Nat} {v v' x : Value} {xs : List Value} {o : Obj} (hL : Listed w w1 tb n xs k v wr) (hk : xs[k + 1]? = some x) (hw : w.heap.size ≤ w1.heap.size)
    (hown : w2.ownsRow w1.heap.size 96 1 v' (k + 1 + 1) (xs.take (k + 1) ++ [x])) (hg : (wr.alloc o).grownBy w2 v.ownBlock) : Listed w w1 tb n xs (k + 1) v' w2 := by
  obtain ⟨h1, ⟨h2, h3⟩, h4⟩ := hL
  refine ⟨?_, ⟨?_, ?_⟩, ?_⟩
  · obtain ⟨hlt, e⟩ := List.getElem?_eq_some_iff.1 hk
    rw [List.take_succ_eq_append_getElem hlt, e]
    exact hown
  · exact (h2.alloc o).grown hg (own_blk_ne h1 h2 (by decide))
  · exact (h3.alloc o).grown hg (fun g hg2 hlt => absurd (own_ge h1 g hg2) (by omega))
  · exact (h4.alloc h4.size o).grown hg (Nat.le_trans h4.size (by simp)) (fun g hg2 => Nat.le_trans hw (own_ge h1 g hg2))
theorem below_marks {w w2 wr : World} {tb : Nat} (hB : Below w.heap.size w w2) (hk : Keeps (· = tb) w2 wr) (ht : w.heap.size ≤ tb) : Below w.heap.size w wr := by
  have k : Keeps (fun _ => False) w wr := ((Keeps.of_below (F := fun _ => False) hB).trans hk (fun i hi h => by omega))
  exact k.below
/-- The states, one after the other. -/
structure StatesAt (w : World) (n : Nat) (L : List (Nat × Nat)) (SS : List St) : Prop where
  len : L.length = SS.length
  at_ : ∀ (k : Nat) (q : Nat × Nat) (st : St), L[k]? = some q → SS[k]? = some st → StateAt w q.1 q.2 st ∧ StOk n st
theorem StatesAt.keeps {w w' : World} {n : Nat} {L : List (Nat × Nat)} {SS : List St} (h : StatesAt w n L SS) (hb : Below w.heap.size w w') : StatesAt w' n L SS :=
  ⟨h.len, fun k q st h1 h2 => ⟨(h.at_ k q st h1 h2).1.below hb, (h.at_ k q st h1 h2).2⟩⟩
theorem StatesAt.mk_ {w : World} {s a mb n : Nat} {pv : Value} {st : St} {pins : List PinPlace} {sts : List St} (hst : StateAt w a mb st) (hok : StOk n st) (hp : PinsAt w s pv pins sts) (hoks : ∀ x ∈ sts, StOk n x) : StatesAt w n ((a, mb) :: pins.map (·.2)) (st :: sts) := by
  refine ⟨by simp [hp.len], fun k q st' h1 h2 => ?_⟩
  cases k with
  | zero =>
    have e1 : (a, mb) = q := by simpa using h1
    have e2 : st = st' := by simpa using h2
    rw [← e1, ← e2]
    exact ⟨hst, hok⟩
  | succ k =>
    have h1' : (pins.map (·.2))[k]? = some q := by simpa using h1
    have h2' : sts[k]? = some st' := by simpa using h2
    rw [List.getElem?_map] at h1'
    cases hq : pins[k]? with
    | none => rw [hq] at h1'; cases h1'
    | some q' =>
      rw [hq] at h1'
      have e : q'.2 = q := by simpa using h1'
      rw [← e]
      exact ⟨(hp.pat k q' st' hq h2').2, hoks _ (List.mem_of_getElem? h2')⟩

def outsOf (M : Nat → Bool) (x : Nat) : List Nat := (List.range x).filter fun i => decide (2 ≤ i) && !M i
theorem outsOf_succ (M : Nat → Bool) {x : Nat} (h : 2 ≤ x) : outsOf M (x + 1) = outsOf M x ++ (if M x then [] else [x]) := by
  unfold outsOf
  rw [List.range_succ, List.filter_append]
  congr 1
  cases hm : M x <;> simp [hm, h]
def Outs (w w6 : World) (n : Nat) (M : Nat → Bool) (x : Nat) (v : Value) (wo : World) : Prop :=
  wo.ownsRow w6.heap.size 3 1 v (outsOf M x).length ((outsOf M x).map Go.Proofs.YtbgiklkpinflaaaGreat.nv) ∧ Blk wo w.heap.size 4 (tkCells n M) ∧ Below w6.heap.size w6 wo
theorem outs_start {w w6 : World} {n : Nat} {M : Nat → Bool} (h : Blk w6 w.heap.size 4 (tkCells n M)) (_hB : Below w.heap.size w w6) : Outs w w6 n M 2 (.slice none 0 0) w6 := by
  have e : outsOf M 2 = [] := rfl
  refine ⟨?_, h, Below.refl _ _⟩
  rw [e]
  exact World.ownsRow_nil w6 _ _ _
theorem outs_step {w w6 wr w8 : World} {n x : Nat} {M : Nat → Bool} {v v' : Value} {o : Obj} (h : Outs w w6 n M x v wr) (hx : 2 ≤ x) (hm : M x = false) (hown : w8.ownsRow w6.heap.size 3 1 v' ((outsOf M x).length + 1) ((outsOf M x).map Go.Proofs.YtbgiklkpinflaaaGreat.nv ++ [.int .i64 (x : Int)])) (hg : (wr.alloc o).grownBy w8 v.ownBlock) : Outs w w6 n M (x + 1) v' w8 := by
  obtain ⟨h1, h2, h3⟩ := h
  refine ⟨?_, (h2.alloc o).grown hg (own_blk_ne h1 h2 (by decide)), (h3.alloc h3.size o).grown hg (by have := h3.size; simp; omega) (own_ge h1)⟩
  rw [outsOf_succ M hx, hm, if_neg (by simp), List.length_append, List.map_append]
  exact hown

set_option maxRecDepth 100000 in
set_option maxHeartbeats 16000000 in
theorem free_calls {P : Nat → Prop} {w : World} {s d life a mb : Nat} {pv nv gv : Value} {op : Bool} {D : Dsk} {S : List Nat} {st : St} {pins : List PinPlace} {sts : List St} (hs : StoBlk w s d life a pv op nv gv) (hD : DiskAt P w d D S) (hst : StateAt w a mb st) (hp : PinsAt w s pv pins sts)
    (hok : StOk D.blocks.length st) (hoks : ∀ x ∈ sts, StOk D.blocks.length x) (hpn : pins.length ≤ 1000) :
    Calls Tryz.prog 66 #[.pointer (some ⟨s, 0, none⟩)] w fun e w' => ∃ v, e = .returned v ∧ w'.ownsRow w.heap.size 3 1 v (freeOf D.blocks.length (st :: sts)).length ((freeOf D.blocks.length (st :: sts)).map Go.Proofs.YtbgiklkpinflaaaGreat.nv) ∧ Below w.heap.size w w' := by
  have c0 : w.cell? ⟨s, 0, none⟩ = some (.pointer (some ⟨d, 0, none⟩)) := hs.cell 0
  obtain ⟨ib, hib, hbz0, hbz1, hbz2⟩ := info_parts Tryz.infoBool
  obtain ⟨ip, hip, hpz0, hpz1, hpz2⟩ := info_parts Tryz.infoStatePtr
  obtain ⟨ii, hii, hiz0, hiz1, hiz2⟩ := info_parts Tryz.infoInt
  obtain ⟨n, hn⟩ : ∃ n, n = D.blocks.length := ⟨_, rfl⟩
  have hDo : DskOk D := hD.1
  have hn1 : n ≤ 1024 := by rw [hn]; exact hDo.few
  have HBL := Lib.hid (blocks_at hD)
  rw [← hn] at HBL hok hoks ⊢
  have HST := Lib.hid hst
  have HP := Lib.hid hp
  have HOK := Lib.hid hok
  have HOKS := Lib.hid hoks
  have HN := Lib.hid hn
  obtain ⟨Ap, cp, rfl, hpc⟩ := own_slice hp.own
  obtain ⟨N, hN⟩ : ∃ N, pins.length = N := ⟨_, rfl⟩
  rw [hN] at hpn hpc hs
  have HS := Lib.hid hs
  have HPC := Lib.hid hpc
  have HNP := Lib.hid hN
  clear hs hst hp hok hoks hn hD hDo hpc hN
  go_enter Tryz.func66, Tryz.ntmps66
  go_wp2_with (first
    | (go_at_call 98; refine HBL.out.mono ?_; rintro e w' ⟨rfl, rfl⟩)
    | (refine wpList_make_full _ rfl _ _ _ rfl w.heap.size 4 ib (.bool false) 1 Tryz.underlying59 hib hbz0 hbz1 .i64 .i64 _ _ n rfl rfl rfl rfl ?_ ?_ ?_ ?_; (rw [hbz2]; omega); (unfold maxLen; omega); exact Nat.le_refl _; intro w1 how1 hg1; have HB1 : Hid (Below w.heap.size w w1) := (Below.refl _ w).grown hg1 (Nat.le_refl _) (fun _ h => by cases h); have HT1 := Lib.hid (tk_start how1); clear how1 hg1; have c12 : w1.cell? ⟨s, 2, none⟩ = some (.pointer (some ⟨a, 0, none⟩)) := (Blk.below HS.out HB1.out (Blk.lt HS.out)).cell 2; have c13 : ∀ o, (w1.alloc o).cell? ⟨s, 3, none⟩ = some (.slice Ap N cp) := fun o => (Blk.alloc (Blk.below HS.out HB1.out (Blk.lt HS.out)) o).cell 3))
  go_loopw [4, 33] (fun v i wr => ∃ k : Nat, k ≤ N ∧ i = .int .i64 k ∧ Listed w w1 w.heap.size n (stPtrs a pins) k v wr) (fun _ i _ => N - (intOf i).toNat)
  case atStart => exact ⟨0, Nat.zero_le _, rfl, listed_start HB1.out HT1.out⟩
  case round =>
    obtain ⟨k, hk, rfl, hL⟩ := hrel
    by_cases hlt : k < N
    · obtain ⟨hown, hmk, hB⟩ := hL
      have hlt' : k < pins.length := by rw [HNP.out]; exact hlt
      obtain ⟨gp, rfl, _, curp, _, hcp⟩ := HPC.out (by omega)
      have q1 : wr.cell? ⟨gp, k, none⟩ = some (.pointer (some ⟨pins[k].1, 0, none⟩)) := by
        have := hcp k (.pointer (some ⟨pins[k].1, 0, none⟩)) (by simp [ptrs, hlt'])
        exact (hB.cell (p := ⟨gp, k, none⟩) (World.block_lt_of_cell? w _ this)).trans this
      have hpk := HP.out.pat k pins[k] (sts[k]'(by rw [← HP.out.len]; exact hlt')) (List.getElem?_eq_getElem _) (List.getElem?_eq_getElem _)
      have q2 : wr.cell? ⟨pins[k].1, 1, none⟩ = some (.pointer (some ⟨pins[k].2.1, 0, none⟩)) := (Blk.below hpk.1 hB (Blk.lt hpk.1)).cell 1
      have hws := hB.size
      go_wp2_with (at_builtin; refine wpList_append_own _ rfl _ _ 159 rfl w1.heap.size 96 ip (.pointer none) 1 8 Tryz.underlying159 hip hpz0 hpz1 hpz2 rfl (by decide) _ _ _ rfl (hown.alloc _) ⟨wr.heap.size, 0, none⟩ 1 1 [.pointer (some ⟨pins[k].2.1, 0, none⟩)] rfl rfl ?_ ?_ ?_ ?_ ?_ ?_; exact cell_one_new _ _ _; simp [Value.oneCell']; (unfold maxLen; omega); omega; (simp; have := hmk.2.size; omega); intro v' w2 hown2 hg2 _)
      go_roundw
      case rel => exact ⟨k + 1, by omega, by go_num, listed_step ⟨hown, hmk, hB⟩ (by simp [stPtrs, hlt']) HB1.out.size hown2 hg2⟩
      case measure => simp [intOf]; omega
    · have hk2 : k = N := by omega
      obtain ⟨hown, hmk, hB⟩ := hL
      rw [hk2, List.take_of_length_le (by simp [stPtrs, HNP.out])] at hown
      obtain ⟨As, cs, rfl, hss⟩ := own_slice hown
      obtain ⟨gs, rfl, hgs, curs, hbs, hcs⟩ := hss (by omega)
      have hgt : gs ≠ w.heap.size := by
        have h1 := own_ge hown gs hgs
        have h2 := HT1.out.lt
        omega
      have HCS := Lib.hid hcs
      have HBS := Lib.hid hbs
      have HMK := Lib.hid hmk
      have HB2 := Lib.hid hB
      have HSS := Lib.hid ((StatesAt.mk_ HST.out HOK.out HP.out HOKS.out).keeps hB)
      have HK2 := Lib.hid hk2
      clear hown hmk hB hss hcs hbs hgs hk2
      obtain ⟨w2, hw2⟩ : ∃ w2, w2 = wr := ⟨_, rfl⟩
      rw [← hw2] at HCS HBS HMK HB2 HSS ⊢
      clear hw2
      have hsl : (st :: sts).length = N + 1 := by simp [← HP.out.len, HNP.out]
      have HSL := Lib.hid hsl
      have hKC : ∀ wi, Keeps (· = w.heap.size) w2 wi → ∀ p v, w2.cell? p = some v → p.block ≠ w.heap.size → wi.cell? p = some v := fun wi k p v h hn => k.cell h hn
      have HKC := Lib.hid hKC
      clear hsl hKC
      go_wp2
      go_loopw [47] (fun i wr => ∃ k : Nat, k ≤ N + 1 ∧ i = .int .i64 k ∧ Marks w2 w.heap.size n (takenBy ((st :: sts).take k)) wr) (fun i _ => N + 1 - (intOf i).toNat)
      case atStart => exact ⟨0, Nat.zero_le _, rfl, HMK.out.1, Keeps.refl _ _⟩
      case round =>
        obtain ⟨k, hk, rfl, hM⟩ := hrel
        by_cases hlt : k < N + 1
        · have hlt2 : k < (st :: sts).length := by rw [HSL.out]; exact hlt
          have hlt3 : k < ((a, mb) :: pins.map (·.2)).length := by rw [HSS.out.len]; exact hlt2
          obtain ⟨q, hq⟩ : ∃ q, q = ((a, mb) :: pins.map (·.2))[k] := ⟨_, rfl⟩
          obtain ⟨sk, hsk⟩ : ∃ sk, sk = (st :: sts)[k] := ⟨_, rfl⟩
          obtain ⟨hsa, hok⟩ := HSS.out.at_ k q sk (by rw [hq]; exact List.getElem?_eq_getElem _) (by rw [hsk]; exact List.getElem?_eq_getElem _)
          obtain ⟨sv, hbl, hnum, hpl⟩ := hsa
          have hnum' := hnum
          obtain ⟨Ai, ci, rfl, _⟩ := hnum'
          have hqt : q.1 ≠ w.heap.size := Blk.ne_ hbl HMK.out.1 (by decide)
          have c2k := HKC.out wr hM.2 ⟨q.1, 2, none⟩ _ (hbl.cell 2) hqt
          have c1k := fun wi h => HKC.out wi h ⟨q.1, 1, none⟩ _ (hbl.cell 1) hqt
          have C1K := Lib.hid c1k
          have cgk := HKC.out wr hM.2 ⟨gs, k, none⟩ (.pointer (some ⟨q.1, 0, none⟩)) (HCS.out k _ (by
            have : stPtrs a pins = ((a, mb) :: pins.map (·.2)).map fun q => Value.pointer (some ⟨q.1, 0, none⟩) := by simp [stPtrs]
            rw [this, List.getElem?_map, List.getElem?_eq_getElem hlt3, ← hq]
            rfl)) hgt
          have HQ := Lib.hid hq
          have HSK := Lib.hid hsk
          have HOKK := Lib.hid hok
          have HNUM := Lib.hid hnum
          have HPL := Lib.hid hpl
          have hM' := Lib.hid hM
          clear hq hsk hok hnum hpl hM c1k hbl hqt
          obtain ⟨ni, hni⟩ : ∃ ni, sk.index.length = ni := ⟨_, rfl⟩
          rw [hni] at c2k HNUM
          have hni2 : ni ≤ 1024 := by rw [← hni]; exact HOKK.out.index1
          have HNI := Lib.hid hni
          clear hni
          go_wp2
          go_loopw [56] (fun i wi => ∃ j : Nat, j ≤ ni ∧ i = .int .i64 j ∧ Marks w2 w.heap.size n (M3 (takenBy ((st :: sts).take k)) (sk.index.take j)) wi) (fun i _ => ni - (intOf i).toNat)
          case atStart => exact ⟨0, Nat.zero_le _, rfl, hM'.out.congr fun i => by simp [M3]⟩
          case round =>
            obtain ⟨j, hj, rfl, hMi⟩ := hrel
            by_cases hlj : j < ni
            · have hlj2 : j < sk.index.length := by rw [HNI.out]; exact hlj
              obtain ⟨b, hb⟩ : ∃ b, b = sk.index[j] := ⟨_, rfl⟩
              obtain ⟨gi, rfl, hci⟩ := NumsAt.cell (l := sk.index) (by have := HNUM.out; rw [← HNI.out] at this; exact this) (by omega)
              have hbb : 2 ≤ b ∧ b < n := by rw [hb]; exact HOKK.out.iblk _ (List.getElem_mem hlj2)
              have hgit : gi ≠ w.heap.size := by
                obtain ⟨_, _, e, _, _, h3⟩ := HNUM.out
                cases e
                obtain ⟨g', cur', e', hbk, _⟩ := h3 (by have := HNI.out; omega)
                cases e'
                exact Blk.ne_ hbk HMK.out.1 (by decide)
              have q1 := HKC.out wr hMi.2 ⟨gi, j, none⟩ _ (hci j hlj2) hgit
              rw [← hb] at q1
              have q2 : wr.cell? ⟨w.heap.size, b, none⟩ = some (.bool (M3 (takenBy ((st :: sts).take k)) (sk.index.take j) b)) := by rw [hMi.1.cell]; exact tkCells_get n _ hbb.2
              have q3 : wr.frozen? ⟨w.heap.size, b, none⟩ = false := hMi.1.frozen b
              obtain ⟨m0, hm0⟩ : ∃ m0, m0 = M3 (takenBy ((st :: sts).take k)) (sk.index.take j) b := ⟨_, rfl⟩
              rw [← hm0] at q2
              have HMi := Lib.hid hMi
              have HB := Lib.hid hb
              clear hm0 hMi hb hci
              have hb0 : (0 : Int) ≤ (b : Int) := by omega
              have hb1 : (b : Int) < (n : Int) := by omega
              go_wp2
              go_roundw
              case rel => exact ⟨j + 1, by omega, by go_num, (HMi.out.set hbb.2).congr (fun i => by rw [HB.out]; exact M3_step _ _ hlj2 i)⟩
              case measure => simp [intOf]; omega
            · have e1 : sk.index.take j = sk.index := List.take_of_length_le (by have := HNI.out; omega)
              have HM3 : Hid (Marks w2 w.heap.size n (M3 (takenBy ((st :: sts).take k)) sk.index) wr) := by
                show Marks _ _ _ _ _
                rw [← e1]
                exact hMi
              have c1 := C1K.out wr hMi.2
              obtain ⟨l, hMp, hps, hplc⟩ := HPL.out
              have HMP : Hid (MapAt wr q.2 (mmap (fun x : Value × Place => x.1) l)) := hMp.keeps hMi.2 (fun e => hMp.not_blk (e ▸ HMK.out.1))
              have hqm : q.2 ≠ w.heap.size := fun e => hMp.not_blk (e ▸ HMK.out.1)
              have HQM := Lib.hid hqm
              have HPS := Lib.hid hps
              have HPLC := Lib.hid hplc
              clear hMi e1 hMp hps hplc hqm
              have hsrt : Srt (mmap (fun x : Value × Place => x.1) l) := by
                have h1 := HOKK.out.srt
                rw [HPS.out] at h1
                unfold Srt mmap at h1 ⊢
                rw [List.pairwise_map] at h1 ⊢
                exact h1
              have HSRT := Lib.hid hsrt
              clear hsrt
              have hw2r := HM3.out.2.size
              go_wp2_with (at_range; refine wpList_mrange _ rfl _ _ rfl 130 Tryz.underlying131 q.2 (mmap (fun x : Value × Place => x.1) l) rfl ?hM ?_)
              case hM => exact HMP.out
              intro w3 hr3 hg3 hs3
              have hM4 : Marks w2 w.heap.size n (M3 (takenBy ((st :: sts).take k)) sk.index) w3 := HM3.out.below ((Below.refl _ wr).grown hg3 (Nat.le_refl _) (fun _ h => by cases h))
              have HR3 := Lib.hid hr3
              have HM4 := Lib.hid hM4
              clear hr3 hg3 hM4 hs3
              obtain ⟨r, hr⟩ : ∃ r, r = wr.heap.size := ⟨_, rfl⟩
              rw [← hr] at HR3 hw2r ⊢
              have hrt : r ≠ w.heap.size := by have := HMK.out.1.lt; omega
              have HRT := Lib.hid hrt
              clear hr hrt
              go_wp2
              go_loopw [14] (fun _ wm => ∃ rem, RangeAt wm q.2 r (mmap (fun x : Value × Place => x.1) l) rem ∧ Marks w2 w.heap.size n (M4 (M3 (takenBy ((st :: sts).take k)) sk.index) sk.places rem) wm ∧ Srt rem) (fun _ wm => wm.rangeLeft q.2 r)
              case atStart =>
                refine ⟨_, HR3.out, HM4.out.congr fun i => M4_start _ ?_ i, HSRT.out⟩
                intro x hx
                rw [HPS.out] at hx
                obtain ⟨y, hy, e⟩ := List.mem_map.1 hx
                rw [← e]
                exact mget_isSome (m := mmap (fun x : Value × Place => x.1) l) (p := (y.1, y.2.1)) (List.mem_map.2 ⟨y, hy, rfl⟩)
              case round =>
                obtain ⟨rem, hr, hMr, hsr⟩ := hrel
                have HR := Lib.hid hr
                have HMR := Lib.hid hMr
                have HSR := Lib.hid hsr
                clear hr hMr hsr
                go_wp2_with (at_next; refine wpList_mnext _ rfl _ rfl q.2 r (mmap (fun x : Value × Place => x.1) l) rem rfl HR.out ?_ ?_)
                · intro hrem
                  have HREM := Lib.hid hrem
                  clear hrem
                  go_wp2
                  refine ⟨⟨k + 1, by omega, by go_num, HMR.out.congr fun i => ?_⟩, by simp [intOf]; omega⟩
                  rw [HREM.out, M4_end, ← takenBy_take _ hlt2, ← HSK.out]
                  unfold M3 stHas
                  rw [Bool.or_assoc]
                · intro key v w4 hks hget hmem hr4 hlt4 hg4 hs4 hen
                  have hpv : ∃ (pl : Place) (A5 : Option Addr) (c5 : Nat), v = .agg #[.int .i64 (pl.size : Int), .int .u32 pl.sum, .slice A5 pl.blocks.length c5] ∧ NumsAt w2 (.slice A5 pl.blocks.length c5) pl.blocks ∧ mget sk.places key.data.toList = some pl ∧ (key.data.toList, pl) ∈ sk.places := by
                    rw [mget_mmap] at hget
                    cases hq : mget l key.data.toList with
                    | none => rw [hq] at hget; cases hget
                    | some q5 =>
                      rw [hq] at hget
                      have e : q5.1 = v := by simpa using hget
                      have hm := mget_mem hq
                      obtain ⟨sv', hv', hnu⟩ := HPLC.out _ hm
                      have hnu' := hnu
                      obtain ⟨A5, c5, hA, _⟩ := hnu'
                      subst hA
                      refine ⟨q5.2, A5, c5, by rw [← e]; exact hv', hnu, by rw [HPS.out, mget_mmap, hq]; rfl, by rw [HPS.out]; exact List.mem_map.2 ⟨_, hm, rfl⟩⟩
                  obtain ⟨pl, A5, c5, rfl, hnu5, hgp, hmp⟩ := hpv
                  have hpok := HOKK.out.places _ hmp
                  have hnb : pl.blocks.length ≤ 274 := by
                    have h1 := hpok.len
                    have h2 := hpok.size
                    simp only at h1 h2
                    omega
                  have hM5 : Marks w2 w.heap.size n (M4 (M3 (takenBy ((st :: sts).take k)) sk.index) sk.places rem) w4 := by
                    have h1 := HMR.out
                    exact ⟨h1.1.grown hg4 (by intro h; cases h; exact HRT.out rfl), h1.2.grown hg4 (fun g h hlt => by cases h; omega)⟩
                  obtain ⟨nb, hnbe⟩ : ∃ nb, pl.blocks.length = nb := ⟨_, rfl⟩
                  rw [hnbe] at hnb hnu5 hen ⊢
                  have HNB := Lib.hid hnbe
                  have HNU5 := Lib.hid hnu5
                  have HGP := Lib.hid hgp
                  have HPOK := Lib.hid hpok
                  have HMEM := Lib.hid hmem
                  have HR4 := Lib.hid hr4
                  have HLT4 := Lib.hid hlt4
                  have HM5 := Lib.hid hM5
                  clear hnbe hnu5 hgp hpok hmem hr4 hlt4 hM5 hget hg4 hmp
                  go_wp2
                  go_loopw [76] (fun i wx => ∃ j : Nat, j ≤ nb ∧ i = .int .i64 j ∧ Marks w2 w.heap.size n (M3 (M4 (M3 (takenBy ((st :: sts).take k)) sk.index) sk.places rem) (pl.blocks.take j)) wx ∧ Keeps (· = w.heap.size) w4 wx) (fun i _ => nb - (intOf i).toNat)
                  case atStart => exact ⟨0, Nat.zero_le _, rfl, (HM5.out.below ((Below.refl _ w4).alloc (Nat.le_refl _) _)).congr (fun i => by simp [M3]), (Keeps.refl _ w4).alloc _⟩
                  case round =>
                    obtain ⟨j, hj, rfl, hMx, hKx⟩ := hrel
                    by_cases hlj : j < nb
                    · have hlj2 : j < pl.blocks.length := by rw [HNB.out]; exact hlj
                      obtain ⟨b, hb⟩ : ∃ b, b = pl.blocks[j] := ⟨_, rfl⟩
                      obtain ⟨gi, rfl, hci⟩ := NumsAt.cell (l := pl.blocks) (by have := HNU5.out; rw [← HNB.out] at this; exact this) (by omega)
                      have hbb : 2 ≤ b ∧ b < n := by rw [hb]; exact HPOK.out.blk _ (List.getElem_mem hlj2)
                      have hgit : gi ≠ w.heap.size := by
                        obtain ⟨_, _, e, _, _, h3⟩ := HNU5.out
                        cases e
                        obtain ⟨g', cur', e', hbk, _⟩ := h3 (by have := HNB.out; omega)
                        cases e'
                        exact Blk.ne_ hbk HMK.out.1 (by decide)
                      have q1 := HKC.out wr hMx.2 ⟨gi, j, none⟩ _ (hci j hlj2) hgit
                      rw [← hb] at q1
                      have q2 : wr.cell? ⟨w.heap.size, b, none⟩ = some (.bool (M3 (M4 (M3 (takenBy ((st :: sts).take k)) sk.index) sk.places rem) (pl.blocks.take j) b)) := by rw [hMx.1.cell]; exact tkCells_get n _ hbb.2
                      have q3 : wr.frozen? ⟨w.heap.size, b, none⟩ = false := hMx.1.frozen b
                      obtain ⟨m0, hm0⟩ : ∃ m0, m0 = M3 (M4 (M3 (takenBy ((st :: sts).take k)) sk.index) sk.places rem) (pl.blocks.take j) b := ⟨_, rfl⟩
                      rw [← hm0] at q2
                      have HMx := Lib.hid hMx
                      have HKx := Lib.hid hKx
                      have HB := Lib.hid hb
                      clear hm0 hMx hb hci hKx
                      have hb0 : (0 : Int) ≤ (b : Int) := by omega
                      have hb1 : (b : Int) < (n : Int) := by omega
                      go_wp2
                      go_roundw
                      case rel => exact ⟨j + 1, by omega, by go_num, (HMx.out.set hbb.2).congr (fun i => by rw [HB.out]; exact M3_step _ _ hlj2 i), HKx.out.setCell (p := ⟨w.heap.size, b, none⟩) (fun _ => rfl) _⟩
                      case measure => simp [intOf]; omega
                    · have e1 : pl.blocks.take j = pl.blocks := List.take_of_length_le (by have := HNB.out; omega)
                      rw [e1] at hMx
                      have HMx := Lib.hid hMx
                      have HKx := Lib.hid hKx
                      clear hMx hKx e1
                      go_wp2
                      obtain ⟨g1, g2⟩ := HR4.out.keeps HKx.out (fun e => HQM.out e) (fun e => HRT.out e)
                      exact ⟨⟨_, g1, HMx.out.congr (fun i => M4_step _ HOKK.out.srt HGP.out i), HSR.out.filter_ _⟩, by rw [g2]; exact HLT4.out⟩
        · have hk3 : k = N + 1 := by omega
          have hn3 : 3 ≤ n := by
            have h1 := HOK.out.iblk _ (List.getElem_mem HOK.out.index)
            omega
          rw [List.take_of_length_le (by rw [HSL.out]; omega)] at hM
          obtain ⟨M, hMe⟩ : ∃ M, M = takenBy (st :: sts) := ⟨_, rfl⟩
          rw [← hMe] at hM
          have HM := Lib.hid hM
          have HME := Lib.hid hMe
          have hB6 : Below w.heap.size w wr := below_marks HB2.out hM.2 (Nat.le_refl _)
          have HB6 := Lib.hid hB6
          have hsz6 := hM.1.lt
          have HK3 := Lib.hid hk3
          clear hM hMe hB6 hk3
          obtain ⟨w6, hw6⟩ : ∃ w6, w6 = wr := ⟨_, rfl⟩
          rw [← hw6] at HM HB6 hsz6 ⊢
          clear hw6
          go_wp2
          go_loopw [15, 16] (fun v i wo => ∃ x : Nat, 2 ≤ x ∧ x ≤ n ∧ i = .int .i64 x ∧ Outs w w6 n M x v wo) (fun _ i _ => n - (intOf i).toNat)
          case atStart => exact ⟨2, Nat.le_refl _, by omega, rfl, outs_start HM.out.1 HB6.out⟩
          case round =>
            obtain ⟨x, hx2, hxn, rfl, hO⟩ := hrel
            by_cases hlx : x < n
            · obtain ⟨hown, hbk, hB⟩ := hO
              have hx0 : (0 : Int) ≤ (x : Int) := by omega
              have hx1 : (x : Int) < (n : Int) := by omega
              have q1 : wr.cell? ⟨w.heap.size, x, none⟩ = some (.bool (M x)) := by rw [hbk.cell]; exact tkCells_get n _ hlx
              have hle : (outsOf M x).length ≤ x := by
                have := List.length_filter_le (fun i => decide (2 ≤ i) && !M i) (List.range x)
                rw [List.length_range] at this
                exact this
              cases hmx : M x
              · rw [hmx] at q1
                have HMX := Lib.hid hmx
                clear hmx
                have hbs := hB.size
                go_wp2_with (at_builtin; refine wpList_append_own _ rfl _ _ 117 rfl w6.heap.size 3 ii (.int .i64 0) 1 8 Tryz.underlying117 hii hiz0 hiz1 hiz2 rfl (by decide) _ _ _ rfl (hown.alloc _) ⟨wr.heap.size, 0, none⟩ 1 1 [.int .i64 (x : Int)] rfl rfl ?_ ?_ ?_ ?_ ?_ ?_; exact cell_one_new _ _ _; simp [Value.oneCell']; (unfold maxLen; omega); omega; (simp; omega); intro v' w8 hown8 hg8 _)
                exact ⟨⟨x + 1, by omega, by omega, by go_num, outs_step ⟨hown, hbk, hB⟩ hx2 HMX.out hown8 hg8⟩, by simp [intOf]; omega⟩
              · rw [hmx] at q1
                have HMX := Lib.hid hmx
                clear hmx
                go_wp2
                exact ⟨⟨x + 1, by omega, by omega, by go_num, by unfold Outs; rw [outsOf_succ M hx2, HMX.out, if_pos rfl, List.append_nil]; exact ⟨hown, hbk, hB⟩⟩, by simp [intOf]; omega⟩
            · have hxe : x = n := by omega
              obtain ⟨hown, hbk, hB⟩ := hO
              have HXE := Lib.hid hxe
              clear hxe
              go_wp2
              go_ret
              have e1 : freeOf n (st :: sts) = outsOf M x := by rw [HXE.out, HME.out]; rfl
              rw [e1]
              exact ⟨_, rfl, ownsRow_base HB6.out.size hown, HB6.out.trans (hB.mono HB6.out.size)⟩

end Go.Proofs.YtbgiklkpinflaaaGreat

namespace Go.Proofs.YtbgiklkpinflaaaGreat
open Go.RowKit Go.Shelf Go.Maps

theorem PinsAt.keeps {F : Nat → Prop} {w w' : World} {s : Nat} {pv : Value} {pins : List PinPlace} {sts : List St} (h : PinsAt w s pv pins sts) (k : Keeps F w w') (h1 : (∀ g, pv.ownBlock = some g → ¬ F g)) (h2 : ∀ g t cs, F g → Blk w g t cs → t ≠ 3 ∧ t ≠ 133 ∧ t ≠ 103) (h3 : ∀ q ∈ pins, ¬ F q.2.2) : PinsAt w' s pv pins sts :=
  ⟨ownsRow_keeps h.own k h1, h.len, fun i q st hq hst => ⟨(h.pat i q st hq hst).1.keeps k (fun hg => (h2 _ _ _ hg (h.pat i q st hq hst).1).2.2 rfl),
    (h.pat i q st hq hst).2.keeps k (fun g t cs hg hb => ⟨(h2 g t cs hg hb).1, (h2 g t cs hg hb).2.1⟩) (h3 q (List.mem_of_getElem? hq))⟩⟩

set_option maxRecDepth 100000 in
set_option maxHeartbeats 4000000 in
theorem Free_calls {P : Nat → Prop} {w : World} {s d life a mb : Nat} {pv nv gv : Value} {op : Bool} {D : Dsk} {S : List Nat} {st : St} {pins : List PinPlace} {sts : List St} (hs : StoBlk w s d life a pv op nv gv) (hD : DiskAt P w d D S) (hst : StateAt w a mb st) (hp : PinsAt w s pv pins sts)
    (hok : StOk D.blocks.length st) (hoks : ∀ x ∈ sts, StOk D.blocks.length x) (hpn : pins.length ≤ 1000) :
    Calls Tryz.prog 19 #[.pointer (some ⟨s, 0, none⟩)] w fun e w' => e = .returned (.int .i64 (if isDead life D then 0 else ((freeOf D.blocks.length (st :: sts)).length : Int))) ∧ Below w.heap.size w w' := by
  have HDD := Lib.hid (dead_calls hs hD)
  have hfr : ∀ w1, Below w.heap.size w w1 → Calls Tryz.prog 66 #[.pointer (some ⟨s, 0, none⟩)] w1 fun e w' => ∃ v, e = .returned v ∧ w'.ownsRow w1.heap.size 3 1 v (freeOf D.blocks.length (st :: sts)).length ((freeOf D.blocks.length (st :: sts)).map Go.Proofs.YtbgiklkpinflaaaGreat.nv) ∧ Below w1.heap.size w1 w' := fun w1 hb =>
    free_calls (Blk.below hs hb (Blk.lt hs)) (hD.below hb) (hst.below hb) (hp.keeps (F := fun _ => False) (Keeps.of_below hb) (fun _ _ h => h) (fun _ _ _ h => h.elim) (fun _ _ h => h)) hok hoks hpn
  have HFR := Lib.hid hfr
  have hle : (freeOf D.blocks.length (st :: sts)).length ≤ 1024 := by
    have h1 := List.length_filter_le (fun i => decide (2 ≤ i) && !takenBy (st :: sts) i) (List.range D.blocks.length)
    rw [List.length_range] at h1
    exact Nat.le_trans h1 hD.1.few
  obtain ⟨nf, hnf⟩ : ∃ nf, nf = (freeOf D.blocks.length (st :: sts)).length := ⟨_, rfl⟩
  rw [← hnf] at hle HFR ⊢
  clear hfr hs hD hst hp hok hoks hnf
  cases hdd : isDead life D
  all_goals
    rw [hdd] at HDD
    clear hdd
    go_enter Tryz.func19, Tryz.ntmps19
    go_wp2_with (first
      | (go_at_call 60; refine HDD.out.mono ?_; rintro e w' ⟨rfl, nq, hw1⟩; have HB1 : Hid (Below w.heap.size w w') := (by show Below w.heap.size w w'; rw [hw1]; exact (Below.refl _ w).drewN_ nq); clear hw1)
      | (go_at_call 66; refine (HFR.out _ HB1.out).mono ?_; rintro e w2 ⟨v, rfl, hown, hb2⟩; obtain ⟨Av, cv, rfl, _⟩ := own_slice hown; clear hown; have HB2 : Hid (Below w.heap.size w w2) := HB1.out.trans (hb2.mono HB1.out.size)))
    go_ret
    first
      | exact ⟨rfl, HB2.out⟩
      | exact ⟨rfl, HB1.out⟩

end Go.Proofs.YtbgiklkpinflaaaGreat
