/- slices.Backward at the pending writes. (*Disk).Read. Write and Read at every disk; Sync. (*Disk).Sync. NewDisk. -/
import Derived.Test.YtbgiklkpinflaaaGreatDiskA
import Derived.RangeFuncBox
import Derived.RangeFuncNested
import Derived.RangeFuncLeaves
import Derived.RangeFuncFrom
import Derived.RangeFuncWrites
import Derived.Shelf.Abstract
import Derived.OwnWalkIn
import Derived.TacticsInMore
import Derived.LoopNIn
import Derived.LoopIn
import Derived.Outline
import Derived.RegionTactic

namespace Go.Proofs.YtbgiklkpinflaaaGreat
open Go.RowKit Go.Shelf
attribute [local go_sem] Oper.semAt_some

/-- The j-th of the pending writes. -/
def pen (ps : List (Nat × Value)) (j : Nat) : Nat × Value := ps[j]?.getD (0, undef)
theorem pen_eq {ps : List (Nat × Value)} {j : Nat} {p : Nat × Value} (h : ps[j]? = some p) : pen ps j = p := by simp [pen, h]

/-- The pending writes ps lie in block g. -/
def PenAt (w : World) (g : Nat) (ps : List (Nat × Value)) : Prop :=
  ∀ j, j < ps.length → w.cell? ⟨g, j * 2, none⟩ = some (.int .i64 ((pen ps j).1 : Int)) ∧ w.cell? ⟨g, j * 2 + 1, none⟩ = some ((pen ps j).2)

theorem penCells_at (ps : List (Nat × Value)) : ∀ j, j < ps.length → (penCells ps)[j * 2]? = some (.int .i64 ((pen ps j).1 : Int)) ∧ (penCells ps)[j * 2 + 1]? = some ((pen ps j).2) := by
  induction ps with
  | nil => intro j h; simp at h
  | cons p ps ih =>
    intro j h
    cases j with
    | zero => exact ⟨rfl, rfl⟩
    | succ j =>
      have := ih j (by simpa using h)
      have e1 : (j + 1) * 2 = j * 2 + 2 := by omega
      rw [e1]
      simpa [penCells, pen] using this

theorem PenAt.of_own {w : World} {base n : Nat} {v : Value} {ps : List (Nat × Value)} (h : w.ownsRow base 138 2 v n (penCells ps)) (hn : 0 < n) : ∃ g cap, v = .slice (some ⟨g, 0, none⟩) n cap ∧ n ≤ cap ∧ v.ownBlock = some g ∧ PenAt w g ps ∧ g < w.heap.size := by
  obtain ⟨h1, h2⟩ := h
  rcases h2 with ⟨_, h0, _⟩ | ⟨g, cap, cur, rfl, hb, hg, hnc, hcm, hcs, ht⟩
  · omega
  · have hl := penCells_length ps
    have hps : n = ps.length := by omega
    refine ⟨g, cap, rfl, hnc, by simp [Value.ownBlock], ?_, Blk.lt (t := 138) hg⟩
    have hC : Cells w g 0 (penCells ps) := take_cells hg ht
    intro j hj
    have := penCells_at ps j hj
    have a1 := hC _ _ this.1
    have a2 := hC _ _ this.2
    simp only [Nat.zero_add] at a1 a2
    exact ⟨a1, a2⟩

theorem PenAt.below {w w' : World} {n g : Nat} {ps : List (Nat × Value)} (h : PenAt w g ps) (hb : Below n w w') (hg : g < n) : PenAt w' g ps := fun j hj =>
  ⟨(hb.cell (p := ⟨g, j * 2, none⟩) hg).trans (h j hj).1, (hb.cell (p := ⟨g, j * 2 + 1, none⟩) hg).trans (h j hj).2⟩

/-- A piece of code that ends as it should: what else may come of it need not be asked. -/
theorem wp_clean {P : Program} {c : Code} {K : Act → World → Prop} {Q : Exit → Act → World → Prop} {a : Act} {w : World} (h : c.wp P (Exit.then K (fun _ _ _ => False)) a w) : c.wp P (Exit.then K Q) a w :=
  wp_mono h fun e a w hh => by cases e <;> first | exact hh | exact hh.elim

/-- What no block but cells turns leaves a block of cells alone. -/
theorem Blk.own_ {w w' : World} {row : Option Nat} {g : Nat} {t : TypeId} {cs : Array Value} (h : Blk w g t cs) (hg : w.grownBy w' row) (hr : ∀ r, row = some r → ∃ o : Obj, w.heap[r]? = some o ∧ o.isCells = false) : Blk w' g t cs :=
  h.grown hg fun e => by
    obtain ⟨o, ho, hn⟩ := hr g e
    unfold Blk at h
    rw [h] at ho
    cases ho
    cases hn
theorem BytesAt.own_ {P : Nat → Prop} {w w' : World} {row : Option Nat} {v : Value} {l : List UInt8} (h : BytesAt P w v l) (hg : w.grownBy w' row) (hr : ∀ r, row = some r → ∃ o : Obj, w.heap[r]? = some o ∧ o.isCells = false) : BytesAt P w' v l := by
  obtain ⟨g, cap, cur, hv, hp, hb, rest⟩ := h
  exact ⟨g, cap, cur, hv, hp, hb.own_ hg hr, rest⟩

/-- The first k that come, from the last on. -/
def downTo (n k : Nat) : List Nat := (List.range k).map fun j => n - 1 - j
theorem downTo_succ (n k : Nat) : downTo n (k + 1) = downTo n k ++ [n - 1 - k] := by simp [downTo, List.range_succ]
theorem downTo_length (n k : Nat) : (downTo n k).length = k := by simp [downTo]

/-- An index of a pending write. -/
abbrev PIx (ps : List (Nat × Value)) := { j : Nat // j < ps.length }
/-- What the loop's variables are at index j. -/
def penEnc (ps : List (Nat × Value)) (j : PIx ps) : Array Value := #[.int .i64 (j.1 : Int), .agg #[.int .i64 ((pen ps j.1).1 : Int), (pen ps j.1).2]]

set_option maxRecDepth 100000 in
set_option maxHeartbeats 2000000 in
theorem back1_in (F : Fence) (n : Nat) (hF : F.fn 138) (hro : F.round = none) (hn : 1 ≤ n) (l Bs n₀ b cap : Nat) (ps : List (Nat × Value)) (hreach : ps.length ≤ 1000000000) (hb : b < n₀) (J Jx : List (PIx ps) → World → Prop)
    (hY : ∀ pre x W, J pre W → pre.length < ps.length → YieldAt F (n - 1) Tryz.prog l (penEnc ps x) W fun e W' =>
      (e = .returned (.bool true) ∧ J (pre ++ [x]) W' ∧ Below n₀ W W') ∨ (e = .returned (.bool false) ∧ Jx (pre ++ [x]) W'))
    (W : World) (hBn : Bs < n₀) (hBs : W.cell? ⟨Bs, 0, none⟩ = some (.slice (some ⟨b, 0, none⟩) ps.length cap)) (hc : PenAt W b ps) (h0 : J [] W) :
    CallsIn F n Tryz.prog 138 #[.func (.yield l) #[] #[], .pointer (some ⟨Bs, 0, none⟩)] W fun e W' => (∃ v, e = .returned v) ∧
      ((∃ ys : List (PIx ps), ys.map (·.1) = downTo ps.length ps.length ∧ J ys W') ∨ (∃ pre : List (PIx ps), (∃ k, k ≤ ps.length ∧ pre.map (·.1) = downTo ps.length k) ∧ Jx pre W')) := by
  refine callsIn_of_wp Tryz.func138 rfl hF ?_ hro
  simp only [Tryz.ntmps138, List.size_toArray, List.length_cons, List.length_nil, Nat.reduceAdd, Nat.reduceSub, Array.replicate_succ, Array.replicate_zero, List.push_toArray, List.append_toArray, List.nil_append, List.cons_append]
  gi_wp2
  gi_loopw [3] (fun i wr => ∃ k : Nat, k ≤ ps.length ∧ i = .int .i64 ((ps.length : Int) - 1 - k) ∧ (∃ pre : List (PIx ps), pre.map (·.1) = downTo ps.length k ∧ J pre wr) ∧ Below n₀ W wr) (fun i _ => (intOf i + 1).toNat)
  case atStart => exact ⟨0, Nat.zero_le _, by simp, ⟨[], rfl, h0⟩, Below.refl _ _⟩
  case round =>
    obtain ⟨k, hk, rfl, ⟨pre, hpre, hJs⟩, hnx⟩ := hrel
    have HP := Lib.hid hpre
    have hplen : pre.length = k := by have := congrArg List.length hpre; simpa [downTo_length] using this
    clear hpre
    have hbs := (hnx.cell (p := ⟨Bs, 0, none⟩) hBn).trans hBs
    by_cases hlt : k < ps.length
    · obtain ⟨m, hm⟩ : ∃ m : Nat, m = ps.length - 1 - k := ⟨_, rfl⟩
      have e1 : (ps.length : Int) - 1 - k = (m : Int) := by omega
      have hml : m < ps.length := by omega
      rw [e1]
      have hcm := (hc.below hnx hb) m (by omega)
      obtain ⟨hc1, hc2⟩ := hcm
      obtain ⟨fn, tmps, assign, body, hy, hR⟩ := hY pre ⟨m, hml⟩ wr hJs (by rw [hplen]; exact hlt)
      unfold penEnc at hy
      dsimp only at hy
      clear hplen
      have HE := Lib.hid e1
      have HM := Lib.hid hm
      clear e1 hm
      gi_wp2
      refine hR.mono ?_
      rintro e W3 (⟨rfl, hJ3, hk3⟩ | ⟨rfl, hJx3⟩)
      · gi_wp2
        go_roundw
        case rel => exact ⟨k + 1, by omega, by have := HE.out; congr 1; omega, ⟨_, by rw [downTo_succ, ← HM.out, List.map_append, HP.out]; rfl, hJ3⟩, hnx.trans hk3⟩
        case measure => simp [intOf]
      · gi_wp2
        refine bodyPost_ret (results_none rfl _ _ _) rfl ?_
        exact ⟨⟨_, rfl⟩, .inr ⟨_, ⟨k + 1, by omega, by rw [downTo_succ, ← HM.out, List.map_append, HP.out]; rfl⟩, hJx3⟩⟩
    · have e1 : (ps.length : Int) - 1 - k = -1 := by omega
      have hk2 : k = ps.length := by omega
      have HK := Lib.hid hk2
      clear hk2 hplen
      rw [e1]
      gi_wp2
      go_end0
      exact ⟨⟨_, rfl⟩, .inl ⟨_, by rw [HP.out, HK.out], hJs⟩⟩

set_option maxRecDepth 100000 in
set_option maxHeartbeats 1000000 in
theorem back1_nil_in (F : Fence) (n : Nat) (hF : F.fn 138) (hro : F.round = none) (l Bs cap : Nat) (A : Option Addr) {α : Type} (J : List α → World → Prop) (W : World) (hBs : W.cell? ⟨Bs, 0, none⟩ = some (.slice A 0 cap)) (h0 : J [] W) :
    CallsIn F n Tryz.prog 138 #[.func (.yield l) #[] #[], .pointer (some ⟨Bs, 0, none⟩)] W fun e W' => (∃ v, e = .returned v) ∧ J [] W' := by
  refine callsIn_of_wp Tryz.func138 rfl hF ?_ hro
  simp only [Tryz.ntmps138, List.size_toArray, List.length_cons, List.length_nil, Nat.reduceAdd, Nat.reduceSub, Array.replicate_succ, Array.replicate_zero, List.push_toArray, List.append_toArray, List.nil_append, List.cons_append]
  gi_wp2
  gi_loopw [3] (fun i wr => i = .int .i64 (-1) ∧ J [] wr) (fun _ _ => 0)
  case atStart => exact ⟨rfl, h0⟩
  case round =>
    obtain ⟨rfl, hJs⟩ := hrel
    gi_wp2
    go_end0
    exact ⟨⟨_, rfl⟩, hJs⟩

set_option maxHeartbeats 1000000 in
/-- slices.Backward: the slice is boxed; the function value captures the box. -/
theorem back_in (F : Fence) (n : Nat) (hF : F.fn 128) (hro : F.round = none) (a : Option Addr) (len cap : Nat) (w : World) :
    CallsIn F n Tryz.prog 128 #[.slice a len cap] w fun e w' => e = .returned (.func (.func 138) #[] #[.pointer (some ⟨w.heap.size, 0, none⟩)]) ∧ w' = w.alloc (.cells #[.slice a len cap] 92) := by
  refine callsIn_of_wp Tryz.func128 rfl hF ?_ hro
  simp only [Tryz.ntmps128, List.size_toArray, List.length_cons, List.length_nil, Nat.reduceAdd, Nat.reduceSub, Array.replicate_succ, Array.replicate_zero, List.push_toArray, List.append_toArray, List.nil_append, List.cons_append]
  gi_wp2
  go_ret
  exact ⟨rfl, rfl⟩

/-- The slice value pv holds the pending writes ps, in a block below n₀; or there are none. -/
def PenSlice (n₀ : Nat) (w : World) (pv : Value) (ps : List (Nat × Value)) : Prop :=
  ∃ A cap, pv = .slice A ps.length cap ∧ (0 < ps.length → ∃ g, A = some ⟨g, 0, none⟩ ∧ g < n₀ ∧ PenAt w g ps)

theorem PenSlice.of_own {w : World} {base n : Nat} {v : Value} {ps : List (Nat × Value)} (h : w.ownsRow base 138 2 v n (penCells ps)) (hl : ps.length = n) : PenSlice w.heap.size w v ps := by
  rcases Nat.eq_zero_or_pos n with h0 | h0
  · rcases h.2 with ⟨hv, _⟩ | ⟨g, cap, cur, rfl, hb, hg, hnc, hcm, hcs, ht⟩
    · exact ⟨none, 0, by rw [hv, hl, h0], by omega⟩
    · exact ⟨_, cap, by rw [hl], by omega⟩
  · obtain ⟨g, cap, rfl, _, _, hp, hg⟩ := PenAt.of_own h h0
    exact ⟨_, cap, by rw [hl], fun _ => ⟨g, rfl, hg, hp⟩⟩

theorem PenSlice.below {w w' : World} {n : Nat} {v : Value} {ps : List (Nat × Value)} (h : PenSlice n w v ps) (hb : Below n w w') : PenSlice n w' v ps := by
  obtain ⟨A, cap, hv, hc⟩ := h
  exact ⟨A, cap, hv, fun h0 => let ⟨g, h1, h2, h3⟩ := hc h0; ⟨g, h1, h2, h3.below hb h2⟩⟩

/-- What slices.Backward hands back: the indices from the last on, with their writes. -/
theorem back_stops (F : Fence) (n : Nat) (hF : F.fn 138) (hro : F.round = none) (hn : 1 ≤ n) (Bs n₀ : Nat) (pv : Value) (ps : List (Nat × Value)) (hreach : ps.length ≤ 1000000000) (w : World) (hBn : Bs < n₀) (hBs : Bs < w.heap.size) (hn₀ : n₀ ≤ w.heap.size)
    (hc : w.cell? ⟨Bs, 0, none⟩ = some pv) (hI : PenSlice n₀ w pv ps) :
    SeqStopsK F n Tryz.prog 138 #[.pointer (some ⟨Bs, 0, none⟩)] (penEnc ps) (Below n₀) (fun ys => ys.map (·.1) = downTo ps.length ps.length) (fun pre => ∃ k, k ≤ ps.length ∧ pre.map (·.1) = downTo ps.length k) ps.length w := fun l J Jx W hW _ _ hY h0 => by
  have hc' := (hW.cell (p := ⟨Bs, 0, none⟩) hBs).trans hc
  obtain ⟨A, cap, rfl, hcs⟩ := hI.below (hW.mono hn₀)
  rcases Nat.eq_zero_or_pos ps.length with hz | hz
  · rw [hz] at hc'
    exact (back1_nil_in F n hF hro l Bs cap A J W hc' h0).mono fun e W' ⟨he, hj⟩ => ⟨he, .inl ⟨[], by show ([] : List Nat) = downTo ps.length ps.length; rw [hz]; rfl, hj⟩⟩
  · obtain ⟨g, rfl, hg, hp⟩ := hcs hz
    exact back1_in F n hF hro hn l Bs n₀ g cap ps hreach hg J Jx hY W hBn hc' hp h0

end Go.Proofs.YtbgiklkpinflaaaGreat

namespace Go.Proofs.YtbgiklkpinflaaaGreat
open Go.RowKit Go.Shelf
attribute [local go_sem] Oper.semAt_some

/-- What block i holds, with the writes that wait. -/
def Dsk.see (D : Dsk) (i : Nat) : List UInt8 := ((D.pending.reverse.find? (fun p => p.1 == i)).map (·.2)).getD (D.blocks[i]?.getD [])
def Dsk.read (D : Dsk) (i : Int) : Int × List UInt8 :=
  if D.down then (50, []) else if i < 0 ∨ (D.blocks.length : Int) ≤ i then (51, []) else (0, D.see i.toNat)

/-- The slice v holds l, in a block from B on; it may be nil where there are none. -/
def Got (B : Nat) (w : World) (v : Value) (l : List UInt8) : Prop := (v = .slice none 0 0 ∧ l = []) ∨ BytesAt (B ≤ ·) w v l

def ReadPost (w : World) (r : Int × List UInt8) (e : Ending) (w' : World) : Prop :=
  ∃ v, e = .returned (.tuple #[v, .int .i64 r.1]) ∧ Got w.heap.size w' v r.2 ∧ Below w.heap.size w w'

set_option maxRecDepth 100000 in
set_option maxHeartbeats 2000000 in
theorem read_down (b n c : Nat) (A : Option Addr) (i : Int) (w : World) (h0 : w.cell? ⟨b, 0, none⟩ = some (.slice A n c)) (hn : 0 < n) (hm : n ≤ 1024) (h3 : w.cell? ⟨b, 3, none⟩ = some (.bool true)) :
    Calls Tryz.prog 91 #[.pointer (some ⟨b, 0, none⟩), .int .i64 i] w (ReadPost w (50, [])) := by
  have hb : b < w.heap.size := World.block_lt_of_cell? w _ h0
  have h0' : ∀ o1 o2 o3, (((w.alloc o1).alloc o2).alloc o3).cell? ⟨b, 0, none⟩ = some (.slice A n c) := fun _ _ _ => Lib.cell?_alloc_some _ (Lib.cell?_alloc_some _ (Lib.cell?_alloc_some _ h0))
  have h3' : ∀ o1 o2 o3, (((w.alloc o1).alloc o2).alloc o3).cell? ⟨b, 3, none⟩ = some (.bool true) := fun _ _ _ => Lib.cell?_alloc_some _ (Lib.cell?_alloc_some _ (Lib.cell?_alloc_some _ h3))
  go_enter Tryz.func91, Tryz.ntmps91
  go_wp2_with (go_at_call 82; refine (down_any b n c A true _ (h0' _ _ _) hn hm (h3' _ _ _)).mono ?_; rintro e w' ⟨rfl, rfl⟩)
  refine bodyPost_ret (v := .tuple #[.slice none 0 0, .int .i64 50]) (by simp [results, Tryz.f91, go_sem]) rfl ⟨.slice none 0 0, rfl, .inl ⟨rfl, rfl⟩, ?_⟩
  exact (((Below.refl _ w).alloc (Nat.le_refl _) _).alloc (by simp) _).alloc (by simp; omega) _

set_option maxRecDepth 100000 in
set_option maxHeartbeats 2000000 in
theorem read_bad (b n c : Nat) (A : Option Addr) (i : Int) (w : World) (h0 : w.cell? ⟨b, 0, none⟩ = some (.slice A n c)) (hn : 0 < n) (hm : n ≤ 1024) (h3 : w.cell? ⟨b, 3, none⟩ = some (.bool false)) (hbad : i < 0 ∨ (n : Int) ≤ i) :
    Calls Tryz.prog 91 #[.pointer (some ⟨b, 0, none⟩), .int .i64 i] w (ReadPost w (51, [])) := by
  have hb : b < w.heap.size := World.block_lt_of_cell? w _ h0
  have h0' : ∀ o1 o2 o3, (((w.alloc o1).alloc o2).alloc o3).cell? ⟨b, 0, none⟩ = some (.slice A n c) := fun _ _ _ => Lib.cell?_alloc_some _ (Lib.cell?_alloc_some _ (Lib.cell?_alloc_some _ h0))
  have h3' : ∀ o1 o2 o3, (((w.alloc o1).alloc o2).alloc o3).cell? ⟨b, 3, none⟩ = some (.bool false) := fun _ _ _ => Lib.cell?_alloc_some _ (Lib.cell?_alloc_some _ (Lib.cell?_alloc_some _ h3))
  by_cases hi : i < 0
  all_goals
    first
      | have hi' : decide (i < 0) = true := by simpa using hi
      | (have hi' : decide (i < 0) = false := by simpa using hi
         have hj' : decide ((n : Int) ≤ i) = true := by simp; omega)
    go_enter Tryz.func91, Tryz.ntmps91
    go_wp2_with (go_at_call 82; refine (down_any b n c A false _ (h0' _ _ _) hn hm (h3' _ _ _)).mono ?_; rintro e w' ⟨rfl, rfl⟩)
    go_quiet (fail)
    go_wp2
    refine bodyPost_ret (v := .tuple #[.slice none 0 0, .int .i64 51]) (by simp [results, Tryz.f91, go_sem]) rfl ⟨.slice none 0 0, rfl, .inl ⟨rfl, rfl⟩, ?_⟩
    exact ((((((Below.refl w.heap.size w).alloc (Nat.le_refl _) _).alloc (by simp) _).alloc (by simp; omega) _).drewN_ nq).setCell (p := ⟨w.heap.size + 1, 0, none⟩) (by simp) _).setCell (p := ⟨w.heap.size + 1 + 1, 0, none⟩) (by simp; omega) _

theorem DiskRep.pen_at {P : Nat → Prop} {w : World} {b : Nat} {D : Dsk} {g1 : Nat} {cur1 : Array Value} {pv : Value} {ps : List (Nat × Value)} (h : DiskRep P w b D g1 cur1 pv ps) (j : Nat) (hj : j < ps.length) :
    ∃ l, D.pending[j]? = some ((pen ps j).1, l) ∧ BytesAt P w (pen ps j).2 l := by
  have hj' : j < D.pending.length := by rw [← h.pslen]; exact hj
  obtain ⟨v, hv, hB⟩ := h.pl j D.pending[j] (List.getElem?_eq_getElem hj')
  rw [pen_eq hv]
  exact ⟨_, List.getElem?_eq_getElem hj', hB⟩

theorem Dsk.see_none {D : Dsk} {i : Nat} (h : ∀ (j : Nat) (p : Nat × List UInt8), D.pending[j]? = some p → p.1 ≠ i) : D.see i = D.blocks[i]?.getD [] := by
  unfold Dsk.see
  rw [List.find?_eq_none.2]
  · rfl
  · intro p hp
    obtain ⟨j, hj⟩ := List.mem_iff_getElem?.1 (List.mem_reverse.1 hp)
    simpa using h j p hj
theorem Dsk.see_last {D : Dsk} {i m : Nat} {l : List UInt8} (hm : D.pending[m]? = some (i, l)) (h : ∀ (j : Nat) (p : Nat × List UInt8), m < j → D.pending[j]? = some p → p.1 ≠ i) : D.see i = l := by
  unfold Dsk.see
  obtain ⟨hlt, he⟩ := List.getElem?_eq_some_iff.1 hm
  have e : D.pending = D.pending.take m ++ ((i, l) :: D.pending.drop (m + 1)) := by
    rw [← he, List.getElem_cons_drop, List.take_append_drop]
  rw [e, List.reverse_append, List.reverse_cons, List.find?_append, List.find?_append, List.find?_eq_none.2]
  · simp
  · intro p hp
    obtain ⟨j, hj⟩ := List.mem_iff_getElem?.1 (List.mem_reverse.1 hp)
    rw [List.getElem?_drop] at hj
    have := h (m + 1 + j) p (by omega) hj
    simpa using this
theorem mem_downTo {n k j : Nat} : j ∈ downTo n k ↔ ∃ t, t < k ∧ j = n - 1 - t := by simp [downTo, eq_comm]

/-- The read's end. -/
theorem read_end {w W : World} {Dd : Nat} {v : Value} {l : List UInt8} {a : Act} (hd : a.defers = [{ target := .collected Dd, args := #[] }]) (h4 : a.tmps[4]?.getD undef = .pointer (some ⟨w.heap.size + 1, 0, none⟩)) (h5 : a.tmps[5]?.getD undef = .pointer (some ⟨w.heap.size + 1 + 1, 0, none⟩))
    (hK : W.heap[Dd]? = some (.deferred (some []))) (B4 : Blk W (w.heap.size + 1) 89 #[v]) (B5 : Blk W (w.heap.size + 1 + 1) 32 #[.int .i64 0]) (hB : BytesAt (w.heap.size ≤ ·) W v l) (hbw : Below w.heap.size w W) (hD : w.heap.size ≤ Dd) :
    bodyPostM Fence.wide 3 Tryz.prog Tryz.f91 (ReadPost w (0, l)) .ret a W := by
  have hg := grownBy_putObj' W Dd (.deferred none)
  have hr : ∀ r, some Dd = some r → ∃ o : Obj, W.heap[r]? = some o ∧ o.isCells = false := fun r e => by cases e; exact ⟨_, hK, rfl⟩
  have c4 := (B4.own_ hg hr).cell 0
  have c5 := (B5.own_ hg hr).cell 0
  show LeavesInM _ _ _ _ a.tmps _ a.defers _ _
  rw [hd]
  refine ⟨by simp, .inl ⟨_, _, rfl, run_takeDeferred hK, ?_⟩⟩
  obtain ⟨g, cap, cur, hv, _⟩ := id hB
  refine ⟨.tuple #[v, .int .i64 0], ?_, v, rfl, .inr (hB.own_ hg hr), hbw.trans ?_⟩
  · have e4 : (W.putObj Dd (.deferred none)).cell? ⟨w.heap.size + 1, 0, none⟩ = some v := c4
    have e5 : (W.putObj Dd (.deferred none)).cell? ⟨w.heap.size + 1 + 1, 0, none⟩ = some (.int .i64 0) := c5
    simp [results, Tryz.f91, go_sem, h4, h5, e4, e5]
  · exact ⟨hg.os, hg.tape, hg.output, hg.size, fun k hk => hg.block k (by have := hbw.size; omega) (by intro e; cases e; omega)⟩

/-- The loop has found the write. -/
def ReadStop (w : World) (i : Nat) (ps : List (Nat × Value)) (D : Dsk) (pre : List (PIx ps)) (W : World) : Prop :=
  (∃ ini last l v, pre = ini ++ [last] ∧ (∀ j ∈ ini, (pen ps j.1).1 ≠ i) ∧ (pen ps last.1).1 = i ∧ D.pending[last.1]? = some ((pen ps last.1).1, l) ∧
    Blk W (w.heap.size + 1) 89 #[v] ∧ Blk W (w.heap.size + 1 + 1) 32 #[.int .i64 0] ∧ BytesAt (w.heap.size ≤ ·) W v l) ∧ Below w.heap.size w W
theorem readStop_own {w : World} {i : Nat} {ps : List (Nat × Value)} {D : Dsk} {B : Nat} (hB : w.heap.size ≤ B) : OwnFrom B (fun pre W => ReadStop w i ps D pre W) := by
  refine OwnFrom.and (Own.from ?_ _) (ownFrom_below (Nat.le_refl _) hB)
  rintro pre W W' row ⟨ini, last, l, v, h1, h2, h3, h4, h5, h6, h7⟩ hg hr
  exact ⟨ini, last, l, v, h1, h2, h3, h4, h5.own_ hg hr, h6.own_ hg hr, h7.own_ hg hr⟩
theorem PenSlice.mono_ {w : World} {n m : Nat} {v : Value} {ps : List (Nat × Value)} (h : PenSlice n w v ps) (hm : n ≤ m) : PenSlice m w v ps := by
  obtain ⟨A, cap, hv, hc⟩ := h
  exact ⟨A, cap, hv, fun h0 => let ⟨g, h1, h2, h3⟩ := hc h0; ⟨g, h1, Nat.lt_of_lt_of_le h2 hm, h3⟩⟩

set_option maxRecDepth 100000 in
set_option maxHeartbeats 4000000 in
theorem read_good {P : Nat → Prop} {b : Nat} {D : Dsk} {g1 : Nat} {cur1 : Array Value} {pv : Value} {ps : List (Nat × Value)} (w : World) (h : DiskRep P w b D g1 cur1 pv ps) (ho : DskOk D) (hd : D.down = false)
    (i : Nat) (hi : i < D.blocks.length) (hn : D.pending.length ≤ 1000000000) :
    Calls Tryz.prog 91 #[.pointer (some ⟨b, 0, none⟩), .int .i64 (i : Int)] w (ReadPost w (0, D.see i)) := by
  have h0 := h.c0
  have h3 := h.c3
  rw [hd] at h3
  have hs := ho.some_
  have hf := ho.few
  have hb : b < w.heap.size := h.hb.lt
  have h0' : ∀ o1 o2 o3, (((w.alloc o1).alloc o2).alloc o3).cell? ⟨b, 0, none⟩ = some (.slice (some ⟨g1, 0, none⟩) D.blocks.length cur1.size) := fun _ _ _ => Lib.cell?_alloc_some _ (Lib.cell?_alloc_some _ (Lib.cell?_alloc_some _ h0))
  have h1' : ∀ o1 o2 o3, (((w.alloc o1).alloc o2).alloc o3).cell? ⟨b, 1, none⟩ = some pv := fun _ _ _ => Lib.cell?_alloc_some _ (Lib.cell?_alloc_some _ (Lib.cell?_alloc_some _ h.c1))
  have h3' : ∀ o1 o2 o3, (((w.alloc o1).alloc o2).alloc o3).cell? ⟨b, 3, none⟩ = some (.bool false) := fun _ _ _ => Lib.cell?_alloc_some _ (Lib.cell?_alloc_some _ (Lib.cell?_alloc_some _ h3))
  have i0 : decide ((i : Int) < 0) = false := by simp
  have i1 : decide ((D.blocks.length : Int) ≤ (i : Int)) = false := by simpa using hi
  have HPS := Lib.hid (PenSlice.of_own h.own h.pslen)
  obtain ⟨Ap, np, cp, hpv⟩ : ∃ Ap np cp, pv = .slice Ap np cp := by
    obtain ⟨A, cap, hv, _⟩ := HPS.out
    exact ⟨_, _, _, hv⟩
  subst hpv
  have H := Lib.hid h
  clear h
  refine callsIn_wide.1 (callsIn_of_wp_marks (n := 3) (F := Fence.wide) Tryz.func91 rfl trivial (wpIn_wide.2 ?_) rfl)
  simp only [Tryz.ntmps91, List.size_toArray, List.length_cons, List.length_nil, Nat.reduceAdd, Nat.reduceSub, Array.replicate_succ, Array.replicate_zero, List.push_toArray, List.append_toArray, List.nil_append, List.cons_append]
  go_wp2_with (go_at_call 82; refine (down_any b _ _ _ false _ (h0' _ _ _) hs hf (h3' _ _ _)).mono ?_; rintro e w' ⟨rfl, rfl⟩)
  go_quiet (fail)
  go_wp2_with (go_at_call 128; refine (callsIn_wide.1 (back_in Fence.wide 2 trivial rfl _ _ _ _)).mono ?_; rintro e w' ⟨rfl, rfl⟩)
  have hB0 : Below w.heap.size w (((((w.alloc (.cells #[.int .i64 (i : Int)] 3)).alloc (.cells #[.slice none 0 0] 89)).alloc (.cells #[.int .i64 0] 32)).drewN nq).alloc (.cells #[.slice Ap np cp] 92)) :=
    (((((Below.refl w.heap.size w).alloc (Nat.le_refl _) _).alloc (by simp) _).alloc (by simp; omega) _).drewN_ nq).alloc (by simp; omega) _
  have hsz : (((((w.alloc (.cells #[.int .i64 (i : Int)] 3)).alloc (.cells #[.slice none 0 0] 89)).alloc (.cells #[.int .i64 0] 32)).drewN nq).alloc (.cells #[.slice Ap np cp] 92)).heap.size = w.heap.size + 4 := by simp
  have b3 := ((((Blk.new w 3 #[.int .i64 (i : Int)]).alloc (.cells #[.slice none 0 0] 89)).alloc (.cells #[.int .i64 0] 32)).drewN nq).alloc (.cells #[.slice Ap np cp] 92)
  have b4 := (((Blk.new (w.alloc (.cells #[.int .i64 (i : Int)] 3)) 89 #[.slice none 0 0]).alloc (.cells #[.int .i64 0] 32)).drewN nq).alloc (.cells #[.slice Ap np cp] 92)
  have b5 := ((Blk.new ((w.alloc (.cells #[.int .i64 (i : Int)] 3)).alloc (.cells #[.slice none 0 0] 89)) 32 #[.int .i64 0]).drewN nq).alloc (.cells #[.slice Ap np cp] 92)
  have bs := Blk.new ((((w.alloc (.cells #[.int .i64 (i : Int)] 3)).alloc (.cells #[.slice none 0 0] 89)).alloc (.cells #[.int .i64 0] 32)).drewN nq) 92 #[.slice Ap np cp]
  have hbs : ((((w.alloc (.cells #[.int .i64 (i : Int)] 3)).alloc (.cells #[.slice none 0 0] 89)).alloc (.cells #[.int .i64 0] 32)).drewN nq).heap.size = w.heap.size + 1 + 1 + 1 := by simp
  rw [hbs] at bs
  simp only [World.size_alloc] at b4 b5
  obtain ⟨W0, hW0⟩ : ∃ W0, (((((w.alloc (.cells #[.int .i64 (i : Int)] 3)).alloc (.cells #[.slice none 0 0] 89)).alloc (.cells #[.int .i64 0] 32)).drewN nq).alloc (.cells #[.slice Ap np cp] 92)) = W0 := ⟨_, rfl⟩
  rw [hW0] at hB0 hsz b3 b4 b5 bs ⊢
  clear hW0 h0' h1' h3' hbs
  have hR0 : DiskRep P W0 b D g1 cur1 (.slice Ap np cp) ps := H.out.keeps (F := fun _ => False) (Keeps.of_below hB0) (fun _ _ => id) (fun _ _ h => h.elim)
  have HR := Lib.hid hR0
  clear hR0 H
  have HSZ := Lib.hid hsz
  have hszl : w.heap.size + 4 ≤ W0.heap.size := by omega
  have hszg : W0.heap.size ≤ w.heap.size + 4 := by omega
  clear hsz
  refine (wpIn_wide (n := 3)).1 ?_
  refine wpIn_rangeFunc_ownH (F := Fence.wide) rfl (by decide) (gf := 138) (lb := #[.pointer (some ⟨w.heap.size + 1 + 1 + 1, 0, none⟩)]) rfl trivial (enters_of Tryz.func138 (by kernel_rfl) rfl)
    (back_stops Fence.wide 2 trivial rfl (by decide) (w.heap.size + 1 + 1 + 1) W0.heap.size _ ps (by rw [HR.out.pslen]; exact hn) W0 (by omega) (by omega) (Nat.le_refl _) (bs.cell 0) (HPS.out.below hB0 |>.mono_ hB0.size)) belowK_t (belowK_b (Nat.le_refl _)) (Below.refl _ _) (fun _ => rfl)
    (fun pre W => (∀ j ∈ pre, (pen ps j.1).1 ≠ i) ∧ Below W0.heap.size W0 W)
    (fun c pre W => c = .ret ∧ ReadStop w i ps D pre W)
    ?hI ?hIx ⟨by simp, Below.refl _ _⟩
    (fun x a' W => ∃ Bx, W0.heap.size ≤ Bx ∧ Blk W Bx 138 #[.int .i64 ((pen ps x.1).1 : Int), (pen ps x.1).2] ∧ a' = { tmps := #[.pointer (some ⟨b, 0, none⟩), .int .i64 (i : Int), undef, .pointer (some ⟨w.heap.size, 0, none⟩), .pointer (some ⟨w.heap.size + 1, 0, none⟩), .pointer (some ⟨w.heap.size + 1 + 1, 0, none⟩), undef, .pointer (some ⟨Bx, 0, none⟩), .bool false, .pointer (some ⟨b, 0, none⟩), .bool false, .bool false, .int .i64 (i : Int), .bool false, .bool false, .int .i64 (i : Int), .pointer (some ⟨b, 0, none⟩), .pointer (some ⟨b, 0, none⟩), .pointer (some ⟨b, 0, none⟩), .slice (some ⟨g1, 0, none⟩) D.blocks.length cur1.size, .int .i64 (D.blocks.length : Int), .bool false, .bool false, .pointer (some ⟨b, 0, none⟩), .pointer (some ⟨b, 0, none⟩), .pointer (some ⟨b, 1, none⟩), .slice Ap np cp, .func (.func 138) #[] #[.pointer (some ⟨w.heap.size + 1 + 1 + 1, 0, none⟩)], .int .i64 (x.1 : Int), .agg #[.int .i64 ((pen ps x.1).1 : Int), (pen ps x.1).2], undef, undef, undef, undef, undef, undef, undef, undef, undef, undef, undef, undef, undef, undef, undef], defers := [] })
    (fun x a' _ X Y row hs hg hr => by obtain ⟨Bx, h1, h2, h3⟩ := hs; exact ⟨Bx, h1, h2.own_ hg (fun r e => (hr r e).2), h3⟩)
    ?assign ?body ?done ?stop
  case hI => exact OwnFrom.and (fun _ _ _ _ hs _ _ => hs) (ownFrom_below (Nat.le_refl _) (Nat.le_refl _))
  case hIx =>
    intro c
    exact OwnFrom.and (fun _ _ _ _ hs _ _ => hs) (readStop_own (by omega))
  case assign =>
    rintro l pre x W K ⟨hp, hB⟩ hK
    obtain ⟨l', _, hB'⟩ := HR.out.pen_at x.1 x.2
    obtain ⟨gx, cx, cur, hvx, _⟩ := hB'
    have HV := Lib.hid hvx
    have HK := Lib.hid hK
    clear hK
    simp only [penEnc, hvx]
    clear hvx
    gi_wp2
    refine HK.out _ _ ((KeepsOthers.alloc _ _).from _) ((Below.refl _ W).alloc hB.size _) ⟨hp, hB.alloc hB.size _⟩ ⟨W.heap.size, hB.size, ?_, ?_⟩
    · rw [HV.out]; exact Blk.new W _ _
    · rw [HV.out]
  case body =>
    rintro l pre x a' W hl ⟨r, hr⟩ ⟨hp, hB⟩ ⟨Bx, hBx, bX, rfl⟩ hlt
    obtain ⟨l', hl', hB'⟩ := HR.out.pen_at x.1 x.2
    have hB2 : BytesAt P W (pen ps x.1).2 l' := hB'.keeps (F := fun _ => False) (Keeps.of_below hB) (fun _ _ h => h.elim)
    obtain ⟨gx, cx, _, hvx, _, _, _, hCx⟩ := hB2.cells
    have hll : l'.length = 256 := (ho.pen _ (List.mem_of_getElem? hl')).2
    have HLL := Lib.hid hll
    clear hll
    have HB2 := Lib.hid hB2
    have hx0 := bX.cell 0
    have hx1 := bX.cell 1
    have c3 : W.cell? ⟨w.heap.size, 0, none⟩ = some (.int .i64 (i : Int)) := (hB.cell (p := ⟨w.heap.size, 0, none⟩) (show w.heap.size < W0.heap.size by omega)).trans (b3.cell 0)
    have B4 : Blk W (w.heap.size + 1) 89 #[.slice none 0 0] := b4.below hB (by omega)
    have B5 : Blk W (w.heap.size + 1 + 1) 32 #[.int .i64 0] := b5.below hB (by omega)
    have HV := Lib.hid hvx
    have HL' := Lib.hid hl'
    rw [hvx] at hx1
    clear hB2 hB' hvx hl'
    by_cases hx : (pen ps x.1).1 = i
    · have t1 : (((pen ps x.1).1 : Int) == (i : Int)) = true := by simp [hx]
      have t2 : ((pen ps x.1).1 == i) = true := by simp [hx]
      have HX := Lib.hid hx
      clear hx
      gi_wp2_with (refine ⟨trivial, ?_⟩; gi_at_call 86; refine (CallsIn.inRound l (callsIn_wide.2 (clone_bytes gx 0 l'.length cx l' _ rfl (by rw [HLL.out]; decide) hCx))).mono ?_; rintro e w2 ⟨g', cap, rfl, hB', hbel⟩; have B4' := B4.belowH hbel rfl B4.lt; have B5' := B5.belowH hbel rfl B5.lt; have f4 := B4'.frozen 0; have f5 := B5'.frozen 0; have d4 : w2.cell? ⟨w.heap.size + 1, 0, none⟩ = some (.slice none 0 0) := B4'.cell 0; have d5 : w2.cell? ⟨w.heap.size + 1 + 1, 0, none⟩ = some (.int .i64 0) := B5'.cell 0)
      have hszW := hB.size
      have k2 : Keeps (fun k => k = w.heap.size + 1 ∨ k = w.heap.size + 1 + 1) w2 ((w2.setCell ⟨w.heap.size + 1, 0, none⟩ (.slice (some ⟨g', 0, none⟩) l'.length cap)).setCell ⟨w.heap.size + 1 + 1, 0, none⟩ (.int .i64 0)) :=
        ((Keeps.refl _ w2).setCell (p := ⟨w.heap.size + 1, 0, none⟩) (fun _ => .inl rfl) _).setCell (p := ⟨w.heap.size + 1 + 1, 0, none⟩) (fun _ => .inr rfl) _
      have hbw : Below w.heap.size w w2 := (hB0.trans (hB.mono (by omega))).trans (hbel.mono (by omega))
      refine ⟨?_, rfl, ⟨pre, x, l', _, rfl, hp, HX.out, HL'.out, (B4'.set_ 0 _).far (p := ⟨w.heap.size + 1 + 1, 0, none⟩) (show w.heap.size + 1 ≠ w.heap.size + 1 + 1 by omega) _, (B5'.far (p := ⟨w.heap.size + 1, 0, none⟩) (show w.heap.size + 1 + 1 ≠ w.heap.size + 1 by omega) _).set_ 0 _, ?_⟩, ?_⟩
      · refine ⟨by simpa [World.setCell] using hbel.size, fun k o _ hk ho => ?_⟩
        have hkW : k < W.heap.size := (Array.getElem?_eq_some_iff.1 hk).1
        have n4 : k ≠ w.heap.size + 1 := by
          rintro rfl
          have hB4 : W.heap[w.heap.size + 1]? = _ := B4
          rw [hB4] at hk
          cases hk
          cases ho
        have n5 : k ≠ w.heap.size + 1 + 1 := by
          rintro rfl
          have hB5 : W.heap[w.heap.size + 1 + 1]? = _ := B5
          rw [hB5] at hk
          cases hk
          cases ho
        exact (k2.block k (Nat.lt_of_lt_of_le hkW hbel.size) (by rintro (h | h); exact n4 h; exact n5 h)).trans ((hbel.block k hkW).trans hk)
      · refine (hB'.keeps k2 ?_).mono ?_
        · rintro g cs (rfl | rfl) hp' _
          · omega
          · omega
        · intro g hg
          omega
      · exact (hbw.setCell (p := ⟨w.heap.size + 1, 0, none⟩) (by simp) _).setCell (p := ⟨w.heap.size + 1 + 1, 0, none⟩) (by simp; omega) _
    · have t1 : (((pen ps x.1).1 : Int) == (i : Int)) = false := by rw [beq_eq_false_iff_ne]; omega
      have t2 : ((pen ps x.1).1 == i) = false := by simpa using hx
      have HX := Lib.hid hx
      clear hx
      gi_wp2
      refine ⟨KeepsFrom.refl _ _, Below.refl _ _, ?_, hB⟩
      intro j hj
      rcases List.mem_append.1 hj with h | h
      · exact hp j h
      · simp only [List.mem_singleton] at h
        subst h
        exact HX.out
  case done =>
    rintro Dd ys W hD hys ⟨hp, hB⟩ hK
    have hsee : D.see i = D.blocks[i]?.getD [] := by
      refine Dsk.see_none fun j p hj => ?_
      have hjl : j < ps.length := by rw [HR.out.pslen]; exact (List.getElem?_eq_some_iff.1 hj).1
      have hm : j ∈ ys.map (·.1) := by rw [hys]; exact mem_downTo.2 ⟨ps.length - 1 - j, by omega, by omega⟩
      obtain ⟨x, hx, rfl⟩ := List.mem_map.1 hm
      obtain ⟨l, hl, _⟩ := HR.out.pen_at x.1 x.2
      rw [hl] at hj
      cases hj
      exact hp x hx
    obtain ⟨vb, hvb, hBb⟩ := HR.out.bl i D.blocks[i] (List.getElem?_eq_getElem hi)
    obtain ⟨gx, cx, _, hvx, _, _, _, hCx⟩ := (hBb.keeps (F := fun _ => False) (Keeps.of_below hB) (fun _ _ h => h.elim)).cells
    subst hvx
    have hRW : DiskRep P W b D g1 cur1 (.slice Ap np cp) ps := HR.out.keeps (F := fun _ => False) (Keeps.of_below hB) (fun _ _ => id) (fun _ _ h => h.elim)
    have hcb : W.cell? ⟨g1, i, none⟩ = some (.slice (some ⟨gx, 0, none⟩) D.blocks[i].length cx) := (hRW.hg.cell i).trans hvb
    have hc0 := hRW.c0
    have c3 : W.cell? ⟨w.heap.size, 0, none⟩ = some (.int .i64 (i : Int)) := (hB.cell (p := ⟨w.heap.size, 0, none⟩) (show w.heap.size < W0.heap.size by omega)).trans (b3.cell 0)
    have B4 : Blk W (w.heap.size + 1) 89 #[.slice none 0 0] := b4.below hB (by omega)
    have B5 : Blk W (w.heap.size + 1 + 1) 32 #[.int .i64 0] := b5.below hB (by omega)
    clear hRW
    have hbl : D.blocks[i].length = 256 := ho.blk _ (List.getElem_mem hi)
    have HBL := Lib.hid hbl
    have hbl2 : D.blocks[i].length ≤ 70368744177664 := by omega
    clear hbl
    have HS := Lib.hid hsee
    clear hsee
    obtain ⟨lb, hlb⟩ : ∃ lb, D.blocks[i] = lb := ⟨_, rfl⟩
    have HLB := Lib.hid hlb
    rw [hlb] at hcb hCx hbl2 HBL
    clear hlb hvb hBb
    have hK2 := Lib.hid hK
    clear hK
    have HP := Lib.hid hp
    have HY := Lib.hid hys
    clear hp hys
    go_wp2
    refine wp_clean ?_
    go_region_law
      (go_simp; go_at_call 86; refine (clone_bytes gx 0 lb.length cx lb _ rfl hbl2 ?_).mono ?_; exact hCx; rintro e w2 ⟨g', cap, rfl, hB', hbel⟩; have B4' := B4.belowH hbel rfl B4.lt; have B5' := B5.belowH hbel rfl B5.lt; have f4 := B4'.frozen 0; have f5 := B5'.frozen 0; have d4 : w2.cell? ⟨w.heap.size + 1, 0, none⟩ = some (.slice none 0 0) := B4'.cell 0; have d5 : w2.cell? ⟨w.heap.size + 1 + 1, 0, none⟩ = some (.int .i64 0) := B5'.cell 0)
    all_goals
      go_wp2
      have hszW := hB.size
      have k2 : Keeps (fun k => k = w.heap.size + 1 ∨ k = w.heap.size + 1 + 1) w2 ((w2.setCell ⟨w.heap.size + 1, 0, none⟩ (.slice (some ⟨g', 0, none⟩) lb.length cap)).setCell ⟨w.heap.size + 1 + 1, 0, none⟩ (.int .i64 0)) :=
        ((Keeps.refl _ w2).setCell (p := ⟨w.heap.size + 1, 0, none⟩) (fun _ => .inl rfl) _).setCell (p := ⟨w.heap.size + 1 + 1, 0, none⟩) (fun _ => .inr rfl) _
      have hbel2 : Below W.heap.size W w2 := ⟨hbel.os, hbel.tape, hbel.output, hbel.size, hbel.block⟩
      have hbw : Below w.heap.size w w2 := (hB0.trans (hB.mono (by omega))).trans (hbel2.mono (by omega))
      rw [HS.out, List.getElem?_eq_getElem hi, Option.getD_some, HLB.out]
      have hDW : Dd < W.heap.size := (Array.getElem?_eq_some_iff.1 hK2.out).1
      refine read_end rfl rfl rfl (Dd := Dd) ?_ ((B4'.set_ 0 _).far (p := ⟨w.heap.size + 1 + 1, 0, none⟩) (show w.heap.size + 1 ≠ w.heap.size + 1 + 1 by omega) _) ((B5'.far (p := ⟨w.heap.size + 1, 0, none⟩) (show w.heap.size + 1 + 1 ≠ w.heap.size + 1 by omega) _).set_ 0 _) ?_ ((hbw.setCell (p := ⟨w.heap.size + 1, 0, none⟩) (by simp) _).setCell (p := ⟨w.heap.size + 1 + 1, 0, none⟩) (by simp; omega) _) (by omega)
      · exact (k2.block Dd (Nat.lt_of_lt_of_le hDW hbel2.size) (by omega)).trans ((hbel2.block Dd hDW).trans hK2.out)
      · refine (hB'.keeps k2 ?_).mono ?_
        · rintro g cs (rfl | rfl) hp' _
          · have hp'' : W.heap.size ≤ w.heap.size + 1 := hp'
            omega
          · have hp'' : W.heap.size ≤ w.heap.size + 1 + 1 := hp'
            omega
        · intro g hg
          have hg' : W.heap.size ≤ g := hg
          omega
  case stop =>
    rintro Dd c pre W hD ⟨k, hk, hpre⟩ ⟨rfl, ⟨ini, last, l, v, rfl, hini, hlast, hl, B4, B5, hBy⟩, hbw⟩ hK
    have hsee : D.see i = l := by
      rw [hlast] at hl
      refine Dsk.see_last hl fun j p hj hp => ?_
      have hjl : j < ps.length := by rw [HR.out.pslen]; exact (List.getElem?_eq_some_iff.1 hp).1
      obtain ⟨k', rfl⟩ : ∃ k', k = k' + 1 := by
        cases k with
        | zero => simp [downTo] at hpre
        | succ k' => exact ⟨k', rfl⟩
      rw [downTo_succ, List.map_append] at hpre
      obtain ⟨e1, e2⟩ := List.append_inj' hpre rfl
      have e3 : last.1 = ps.length - 1 - k' := by simpa using e2
      have hm : j ∈ ini.map (·.1) := by rw [e1]; exact mem_downTo.2 ⟨ps.length - 1 - j, by omega, by omega⟩
      obtain ⟨x, hx, rfl⟩ := List.mem_map.1 hm
      obtain ⟨l, hl, _⟩ := HR.out.pen_at x.1 x.2
      rw [hl] at hp
      cases hp
      exact hini x hx
    rw [hsee]
    refine (wpIn_wide (n := 3)).2 ?_
    go_wp2
    exact read_end rfl rfl rfl hK B4 B5 hBy hbw (by omega)

end Go.Proofs.YtbgiklkpinflaaaGreat

namespace Go.Proofs.YtbgiklkpinflaaaGreat
open Go.RowKit Go.Shelf

theorem Dsk.fails_pending (D : Dsk) : D.fails.2.pending = D.pending := by unfold Dsk.fails; split; rfl; split <;> rfl
theorem Dsk.fails_blocks (D : Dsk) : D.fails.2.blocks = D.blocks := by unfold Dsk.fails; split; rfl; split <;> rfl
theorem Dsk.fails_life (D : Dsk) : D.fails.2.life ≤ D.life + 1 := by unfold Dsk.fails; split; simp; split <;> simp
theorem Dsk.fails_down {D : Dsk} (h : D.fails.1 = false) : D.fails.2.down = D.down := by
  unfold Dsk.fails at h ⊢
  split
  · rfl
  · split
    · rename_i h1 h2
      rw [if_neg h1, if_pos h2] at h
      cases h
    · rfl

theorem After.refl {P : Nat → Prop} {w : World} {b : Nat} {D : Dsk} {S : List Nat} (h : DiskAt P w b D S) : After P w w b D S := ⟨S, h, fun _ hk => .inl hk, Keeps.refl _ _⟩

/-- The bytes that are handed to Write. -/
def Handed (w : World) (S : List Nat) (v : Value) (l : List UInt8) : Prop :=
  ∃ A c, v = .slice A l.length c ∧ (0 < l.length → ∃ g o, A = some ⟨g, o, none⟩ ∧ Cells w g o (l.map bv) ∧ g ∉ S)

theorem write_any {P : Nat → Prop} {b : Nat} {D : Dsk} {S : List Nat} (w : World) (h : DiskAt P w b D S) (hl : D.life ≤ 4611686018427387904) (hn : D.pending.length ≤ 1000000000) (i : Int) (v : Value) (l : List UInt8) (hv : Handed w S v l) :
    Calls Tryz.prog 74 #[.pointer (some ⟨b, 0, none⟩), .int .i64 i, v] w fun e w' => e = .returned (.int .i64 (D.write i l).1) ∧ After P w w' b (D.write i l).2 S := by
  obtain ⟨ho, g1, cur1, pv, ps, rfl, hr⟩ := h
  obtain ⟨A, c, rfl, hA⟩ := hv
  have hD : DiskAt P w b D (b :: g1 :: pv.ownBlock.toList) := ⟨ho, g1, cur1, pv, ps, rfl, hr⟩
  have h3 := hr.c3
  cases hd : D.down
  · rw [hd] at h3
    by_cases hbad : i < 0 ∨ (D.blocks.length : Int) ≤ i ∨ l.length ≠ 256
    · refine (write_bad b _ _ l.length c _ A i w hr.c0 ho.some_ ho.few h3 hbad).mono ?_
      rintro e w' ⟨rfl, rfl⟩
      have e1 : D.write i l = (51, D) := by unfold Dsk.write; rw [hd, if_neg (by simp), if_pos hbad]
      rw [e1]
      exact ⟨rfl, After.refl hD⟩
    · have hi0 : 0 ≤ i := by omega
      obtain ⟨n, rfl⟩ := Int.eq_ofNat_of_zero_le hi0
      have h256 : l.length = 256 := by omega
      obtain ⟨gb, ob, rfl, hc, hgb⟩ := hA (by omega)
      have := write_good w hr ho hl hd n (by omega) hn gb ob c l h256 hc (by intro e; exact hgb (by simp [e]))
      rw [h256]
      exact this
  · rw [hd] at h3
    refine (write_down b _ _ _ i _ w hr.c0 ho.some_ ho.few h3).mono ?_
    rintro e w' ⟨rfl, rfl⟩
    have e1 : D.write i l = (50, D) := by unfold Dsk.write; rw [if_pos hd]
    rw [e1]
    exact ⟨rfl, After.refl hD⟩

theorem read_any {P : Nat → Prop} {b : Nat} {D : Dsk} {S : List Nat} (w : World) (h : DiskAt P w b D S) (hn : D.pending.length ≤ 1000000000) (i : Int) :
    Calls Tryz.prog 91 #[.pointer (some ⟨b, 0, none⟩), .int .i64 i] w (ReadPost w (D.read i)) := by
  obtain ⟨ho, g1, cur1, pv, ps, rfl, hr⟩ := h
  have h3 := hr.c3
  cases hd : D.down
  · rw [hd] at h3
    by_cases hbad : i < 0 ∨ (D.blocks.length : Int) ≤ i
    · have e1 : D.read i = (51, []) := by unfold Dsk.read; rw [hd, if_neg (by simp), if_pos hbad]
      rw [e1]
      exact read_bad b _ _ _ i w hr.c0 ho.some_ ho.few h3 hbad
    · have hi0 : 0 ≤ i := by omega
      obtain ⟨n, rfl⟩ := Int.eq_ofNat_of_zero_le hi0
      have e1 : D.read (n : Int) = (0, D.see n) := by unfold Dsk.read; rw [hd, if_neg (by simp), if_neg hbad]; rfl
      rw [e1]
      exact read_good w hr ho hd n (by omega) hn
  · rw [hd] at h3
    have e1 : D.read i = (50, []) := by unfold Dsk.read; rw [if_pos hd]
    rw [e1]
    exact read_down b _ _ _ i w hr.c0 ho.some_ ho.few h3

/-- The writes take effect, one behind the other. -/
def settle (B : List (List UInt8)) (l : List (Nat × List UInt8)) : List (List UInt8) := l.foldl (fun B p => B.set p.1 p.2) B
theorem settle_snoc (B : List (List UInt8)) (l : List (Nat × List UInt8)) (p : Nat × List UInt8) : settle B (l ++ [p]) = (settle B l).set p.1 p.2 := by simp [settle]
theorem settle_length (l : List (Nat × List UInt8)) : ∀ B, (settle B l).length = B.length := by
  induction l with
  | nil => intro B; rfl
  | cons p l ih => intro B; show (settle (B.set p.1 p.2) l).length = _; rw [ih]; simp
theorem settle_take (B : List (List UInt8)) (l : List (Nat × List UInt8)) {k : Nat} {p : Nat × List UInt8} (h : l[k]? = some p) : settle B (l.take (k + 1)) = (settle B (l.take k)).set p.1 p.2 := by
  obtain ⟨hk, rfl⟩ := List.getElem?_eq_some_iff.1 h
  rw [List.take_succ_eq_append_getElem hk, settle_snoc]

def Dsk.sync (D : Dsk) : Int × Dsk :=
  if D.down then (50, D) else if D.fails.1 then (50, D.fails.2) else (0, { D.fails.2 with blocks := settle D.blocks D.pending, pending := [] })

theorem Keeps.set1 (w : World) (g i : Nat) (u : Value) : Keeps (· = g) w (w.setCell ⟨g, i, none⟩ u) := (Keeps.refl (· = g) w).setCell (p := ⟨g, i, none⟩) (fun _ => rfl) u

section
variable {P : Nat → Prop} {w : World} {b : Nat} {E : Dsk} {g1 : Nat} {cur : Array Value} {pv : Value} {ps : List (Nat × Value)}
/-- One block is replaced. -/
theorem DiskRep.setBlock (h : DiskRep P w b E g1 cur pv ps) (i : Nat) (l : List UInt8) (v : Value) (hB : BytesAt P w v l) (hi : i < E.blocks.length) : DiskRep P (w.setCell ⟨g1, i, none⟩ v) b { E with blocks := E.blocks.set i l } g1 (cur.setIfInBounds i v) pv ps := by
  have k1 : Keeps (· = g1) w (w.setCell ⟨g1, i, none⟩ v) := Keeps.set1 w g1 i v
  have hU : ∀ g cs, g = g1 → P g → Blk w g 5 cs → False := fun g cs hg _ hk => h.noBytes g cs (by simp [hg]) hk
  have hle := h.le
  refine ⟨?_, h.hg.set_ i v, by simpa using hle, ?_, ownsRow_keeps h.own k1 (fun g hg e => h.ne3 (by rw [hg, e])), h.pb, ?_, fun k hk => h.fresh k (Nat.le_trans k1.size hk)⟩
  · have := h.hb.keeps k1 h.ne1
    simpa using this
  · intro j l' hj
    simp only at hj
    rw [List.getElem?_set] at hj
    split at hj
    · rename_i e
      subst e
      cases hj
      refine ⟨v, ?_, hB.keeps k1 hU⟩
      rw [Array.getElem?_setIfInBounds_self_of_lt]
      omega
    · rename_i hne
      obtain ⟨v', hv', hB'⟩ := h.bl j l' hj
      exact ⟨v', by rw [Array.getElem?_setIfInBounds_ne hne]; exact hv', hB'.keeps k1 hU⟩
  · intro j p hj
    obtain ⟨v', hv', hB'⟩ := h.pl j p hj
    exact ⟨v', hv', hB'.keeps k1 hU⟩

/-- Nothing waits any more. -/
theorem DiskRep.drop (h : DiskRep P w b E g1 cur pv ps) : DiskRep P (w.setCell ⟨b, 1, none⟩ (.slice none 0 0)) b { E with pending := [] } g1 cur (.slice none 0 0) [] := by
  have k1 : Keeps (· = b) w (w.setCell ⟨b, 1, none⟩ (.slice none 0 0)) := Keeps.set1 w b 1 _
  have hU : ∀ g cs, g = b → P g → Blk w g 5 cs → False := fun g cs hg _ hk => h.noBytes g cs (by simp [hg]) hk
  refine ⟨h.hb.set_ 1 _, h.hg.keeps k1 (Ne.symm h.ne1), h.le, ?_, ⟨rfl, .inl ⟨rfl, rfl⟩⟩, rfl, fun j p hj => by simp at hj, fun k hk => h.fresh k (Nat.le_trans k1.size hk)⟩
  intro j l' hj
  obtain ⟨v', hv', hB'⟩ := h.bl j l' hj
  exact ⟨v', hv', hB'.keeps k1 hU⟩
end

end Go.Proofs.YtbgiklkpinflaaaGreat

namespace Go.Proofs.YtbgiklkpinflaaaGreat
open Go.RowKit Go.Shelf

theorem DiskRep.keepsB {P : Nat → Prop} {w w' : World} {b : Nat} {D : Dsk} {g1 : Nat} {cur1 : Array Value} {pv : Value} {ps : List (Nat × Value)} {B : Nat} (h : DiskRep P w b D g1 cur1 pv ps) (hb : Below B w w') (hB : w.heap.size ≤ B) : DiskRep P w' b D g1 cur1 pv ps :=
  h.keeps (F := fun _ => False) (Keeps.of_below (hb.mono hB)) (fun _ _ => id) (fun _ _ h => h.elim)

set_option maxRecDepth 100000 in
set_option maxHeartbeats 2000000 in
theorem sync_down (b n c : Nat) (A : Option Addr) (w : World) (h0 : w.cell? ⟨b, 0, none⟩ = some (.slice A n c)) (hn : 0 < n) (hm : n ≤ 1024) (h3 : w.cell? ⟨b, 3, none⟩ = some (.bool true)) :
    Calls Tryz.prog 93 #[.pointer (some ⟨b, 0, none⟩)] w fun e w' => e = .returned (.int .i64 50) ∧ w = w' := by
  go_enter Tryz.func93, Tryz.ntmps93
  go_wp2_with (go_at_call 82; refine (down_any b n c A true _ h0 hn hm h3).mono ?_; rintro e w' ⟨rfl, rfl⟩)
  go_ret
  exact ⟨rfl, rfl⟩

theorem settle_all {n : Nat} : ∀ {l : List (Nat × List UInt8)} {B : List (List UInt8)}, (∀ x ∈ B, x.length = n) → (∀ p ∈ l, p.2.length = n) → ∀ x ∈ settle B l, x.length = n := by
  intro l
  induction l with
  | nil => intro B hB _; exact hB
  | cons p l ih =>
    intro B hB hl
    show ∀ x ∈ settle (B.set p.1 p.2) l, _
    refine ih (fun x hx => ?_) (fun q hq => hl q (by simp [hq]))
    rcases List.mem_or_eq_of_mem_set hx with h | rfl
    · exact hB x h
    · exact hl p (by simp)

/-- k of the writes have taken effect. -/
def Settling (P : Nat → Prop) (w1 : World) (b : Nat) (E : Dsk) (g1 : Nat) (cur1 : Array Value) (pv : Value) (ps : List (Nat × Value)) (k : Nat) (wr : World) : Prop :=
  ∃ cur, cur.size = cur1.size ∧ DiskRep P wr b { E with blocks := settle E.blocks (E.pending.take k) } g1 cur pv ps ∧ Keeps (· = g1) w1 wr

theorem Settling.pen_at {P : Nat → Prop} {w1 : World} {b : Nat} {E : Dsk} {g1 : Nat} {cur1 : Array Value} {pv : Value} {ps : List (Nat × Value)} {k : Nat} {wr : World} (h : Settling P w1 b E g1 cur1 pv ps k wr) {j : Nat} (hj : j < ps.length) {gp c1 n : Nat} (hv : pv = .slice (some ⟨gp, 0, none⟩) n c1) :
    wr.cell? ⟨gp, j * 2, none⟩ = some (.int .i64 ((pen ps j).1 : Int)) ∧ wr.cell? ⟨gp, j * 2 + 1, none⟩ = some (pen ps j).2 := by
  obtain ⟨cur, _, hr, _⟩ := h
  obtain ⟨A, c, hA, hp⟩ := PenSlice.of_own hr.own hr.pslen
  obtain ⟨g, rfl, _, hp⟩ := hp (by omega)
  rw [hv] at hA
  cases hA
  exact hp j hj

theorem Settling.has {P : Nat → Prop} {w1 : World} {b : Nat} {E : Dsk} {g1 : Nat} {cur1 : Array Value} {pv : Value} {ps : List (Nat × Value)} {k : Nat} {wr : World} (h : Settling P w1 b E g1 cur1 pv ps k wr) {j : Nat} (hj : j < E.blocks.length) :
    ∃ g n c, wr.cell? ⟨g1, j, none⟩ = some (.slice g n c) := by
  obtain ⟨cur, _, hr, _⟩ := h
  have hjl : j < (settle E.blocks (E.pending.take k)).length := by rw [settle_length]; exact hj
  obtain ⟨v, hv, hB⟩ := hr.bl j _ (List.getElem?_eq_getElem hjl)
  obtain ⟨g, cap, _, rfl, _⟩ := hB
  exact ⟨_, _, _, (hr.hg.cell j).trans hv⟩

theorem Settling.step {P : Nat → Prop} {w1 : World} {b : Nat} {E : Dsk} {g1 : Nat} {cur1 : Array Value} {pv : Value} {ps : List (Nat × Value)} {k : Nat} {wr : World} (h : Settling P w1 b E g1 cur1 pv ps k wr) (hk : k < ps.length) (hE : DskOk E) (o : Obj) :
    Settling P w1 b E g1 cur1 pv ps (k + 1) ((wr.alloc o).setCell ⟨g1, (pen ps k).1, none⟩ (pen ps k).2).drew := by
  obtain ⟨cur, hcs, hr, hkk⟩ := h
  have hr2 : DiskRep P (wr.alloc o).drew b _ g1 cur pv ps := hr.keepsB (B := wr.heap.size) (((Below.refl _ wr).alloc (Nat.le_refl _) o).drew_) (Nat.le_refl _)
  obtain ⟨l, hpk, hB⟩ := hr2.pen_at k hk
  have hpi := hE.pen _ (List.mem_of_getElem? hpk)
  refine ⟨cur.setIfInBounds (pen ps k).1 (pen ps k).2, by simpa using hcs, ?_, ?_⟩
  · have := hr2.setBlock (pen ps k).1 l (pen ps k).2 hB (by simpa [settle_length] using hpi.1)
    rw [settle_take _ _ hpk]
    exact this
  · exact ((hkk.alloc o).drew).trans (Keeps.set1 _ g1 _ _) (fun _ _ h => h)

set_option maxRecDepth 100000 in
set_option maxHeartbeats 2000000 in
theorem sync_good {P : Nat → Prop} {b : Nat} {D : Dsk} {g1 : Nat} {cur1 : Array Value} {pv : Value} {ps : List (Nat × Value)} (w : World) (h : DiskRep P w b D g1 cur1 pv ps) (ho : DskOk D) (hl : D.life ≤ 4611686018427387904) (hd : D.down = false) (hn : D.pending.length ≤ 1000000000) :
    Calls Tryz.prog 93 #[.pointer (some ⟨b, 0, none⟩)] w fun e w' => e = .returned (.int .i64 D.sync.1) ∧ After P w w' b D.sync.2 (b :: g1 :: pv.ownBlock.toList) := by
  have h0 := h.c0
  have h3 := h.c3
  rw [hd] at h3
  have hf := ho.few
  have hs := ho.some_
  have HF := Lib.hid (fails_calls h ho hl)
  cases hff : D.fails.1
  · have HE : Hid (D.sync = (0, { D.fails.2 with blocks := settle D.blocks D.pending, pending := [] })) := by
      show D.sync = _
      unfold Dsk.sync
      rw [hd, hff]
      rfl
    rw [hff] at HF
    go_enter Tryz.func93, Tryz.ntmps93
    go_wp2_with (first
      | (go_at_call 82; refine (down_any b _ _ _ false _ h0 hs hf h3).mono ?_; rintro e wx ⟨rfl, rfl⟩)
      | (go_at_call 117; refine HF.out.mono ?_; rintro e w1 ⟨rfl, hr1, hk1⟩; clear HF; obtain ⟨A1, c1, hv1, hp1⟩ := PenSlice.of_own hr1.own hr1.pslen; have hc1 := hr1.c1; rw [hv1] at hc1; have HR := Lib.hid hr1; have HV := Lib.hid hv1; have HK := Lib.hid hk1; have HP := Lib.hid hp1; clear hr1 hv1 hk1 hp1))
    have hpsr : ps.length ≤ 1000000000 := by have := HR.out.pslen; rw [D.fails_pending] at this; omega
    go_loopw [16] (fun i wr => ∃ k : Nat, k ≤ ps.length ∧ i = .int .i64 k ∧ Settling P w1 b D.fails.2 g1 cur1 pv ps k wr) (fun i _ => ps.length - (intOf i).toNat)
    case atStart => exact ⟨0, Nat.zero_le _, rfl, cur1, rfl, HR.out, Keeps.refl _ _⟩
    case round =>
      obtain ⟨k, hk, rfl, hset⟩ := hrel
      by_cases hlt : k < ps.length
      · obtain ⟨gp, hA, _, hpen⟩ := HP.out (by omega)
        subst hA
        obtain ⟨cur, hcs, hr, hkk⟩ := id hset
        obtain ⟨l, hpk, hB⟩ := hr.pen_at k hlt
        obtain ⟨gx, cx, _, hvx, _⟩ := id hB
        have hpi : (pen ps k).1 < D.fails.2.blocks.length ∧ l.length = 256 := ho.fails.pen _ (List.mem_of_getElem? hpk)
        obtain ⟨hpi1, hll⟩ := hpi
        have hpen' := hset.pen_at hlt HV.out
        obtain ⟨q1, q2⟩ := hpen'
        have q3 := hr.c0
        simp only [settle_length] at q3
        have q4 := hr.hg.frozen (pen ps k).1
        obtain ⟨go, no, co, q5⟩ := hset.has hpi1
        have HX := Lib.hid hvx
        rw [hvx] at q2
        have q3a : ∀ o, (wr.alloc o).cell? ⟨b, 0, none⟩ = some (.slice (some ⟨g1, 0, none⟩) D.fails.2.blocks.length cur.size) := fun o => Lib.cell?_alloc_some _ q3
        have q5a : ∀ o, (wr.alloc o).cell? ⟨g1, (pen ps k).1, none⟩ = some (.slice go no co) := fun o => Lib.cell?_alloc_some _ q5
        have q4a : ∀ o, (wr.alloc o).frozen? ⟨g1, (pen ps k).1, none⟩ = false := fun o => by rw [World.frozen?_alloc_old _ _ _ (Nat.ne_of_lt hr.hg.lt)]; exact q4
        have HS := Lib.hid hset
        have HP2 := Lib.hid hpk
        clear hset hpk hvx hll hB hr hkk hcs hpen
        go_wp2
        go_region
        all_goals
          go_wp2
          go_roundw
          case rel =>
            have hst := HS.out.step hlt ho.fails (.cells #[.int .i64 ((pen ps k).1 : Int), (pen ps k).2] 138)
            rw [HX.out] at hst
            exact ⟨k + 1, by omega, by go_num, hst⟩
          case measure => simp [intOf]; omega
      · have hk2 : k = ps.length := by omega
        have hset' := hset
        obtain ⟨cur, hcs, hr, hkk⟩ := hset
        have q1 := hr.c1
        rw [HV.out] at q1
        have q2 := hr.hb.frozen 1
        have H1 := Lib.hid hk2
        have HR2 := Lib.hid hr
        clear hr hk2 hset'
        go_wp2
        go_ret
        rw [HE.out]
        refine ⟨rfl, [b, g1], ⟨?_, g1, cur, .slice none 0 0, [], rfl, ?_⟩, ?_, ?_⟩
        · refine ⟨?_, fun p hp => by simp at hp, by simpa [settle_length] using ho.some_, by simpa [settle_length] using ho.few, ho.fails.armedLe⟩
          exact settle_all ho.blk fun p hp => (ho.pen p hp).2
        · have := HR2.out.drop
          rw [H1.out, HR.out.pslen, List.take_length, D.fails_blocks, D.fails_pending] at this
          exact this
        · intro i hi
          left
          simp only [List.mem_cons, List.not_mem_nil, or_false] at hi ⊢
          rcases hi with h | h
          · exact .inl h
          · exact .inr (.inl h)
        · refine ((HK.out.weaken (F := (· ∈ b :: g1 :: pv.ownBlock.toList)) (fun i _ e => by simp [e])).trans hkk ?_).trans (Keeps.set1 _ b 1 _) ?_
          · rintro i _ rfl
            simp
          · rintro i _ rfl
            simp
  · have HE : Hid (D.sync = (50, D.fails.2)) := by
      show D.sync = _
      unfold Dsk.sync
      rw [hd, hff]
      rfl
    rw [hff] at HF
    go_enter Tryz.func93, Tryz.ntmps93
    go_wp2_with (first
      | (go_at_call 82; refine (down_any b _ _ _ false _ h0 hs hf h3).mono ?_; rintro e wx ⟨rfl, rfl⟩)
      | (go_at_call 117; refine HF.out.mono ?_; rintro e w1 ⟨rfl, hr1, hk1⟩; clear HF))
    go_ret
    rw [HE.out]
    refine ⟨rfl, b :: g1 :: pv.ownBlock.toList, ⟨ho.fails, g1, cur1, pv, ps, rfl, hr1⟩, fun k hk => .inl hk, hk1.weaken ?_⟩
    intro k _ e
    simp [e]

theorem sync_any {P : Nat → Prop} {b : Nat} {D : Dsk} {S : List Nat} (w : World) (h : DiskAt P w b D S) (hl : D.life ≤ 4611686018427387904) (hn : D.pending.length ≤ 1000000000) :
    Calls Tryz.prog 93 #[.pointer (some ⟨b, 0, none⟩)] w fun e w' => e = .returned (.int .i64 D.sync.1) ∧ After P w w' b D.sync.2 S := by
  obtain ⟨ho, g1, cur1, pv, ps, rfl, hr⟩ := h
  have hD : DiskAt P w b D (b :: g1 :: pv.ownBlock.toList) := ⟨ho, g1, cur1, pv, ps, rfl, hr⟩
  have h3 := hr.c3
  cases hd : D.down
  · exact sync_good w hr ho hl hd hn
  · rw [hd] at h3
    refine (sync_down b _ _ _ w hr.c0 ho.some_ ho.few h3).mono ?_
    rintro e w' ⟨rfl, rfl⟩
    have e1 : D.sync = (50, D) := by unfold Dsk.sync; rw [if_pos hd]
    rw [e1]
    exact ⟨rfl, After.refl hD⟩

end Go.Proofs.YtbgiklkpinflaaaGreat

namespace Go.Proofs.YtbgiklkpinflaaaGreat
open Go.RowKit Go.Shelf
attribute [local go_sem ↓] Go.wp_at_zero Go.wp_at_succ

def zeros : List UInt8 := List.replicate 256 0
theorem zeros_length : zeros.length = 256 := List.length_replicate
theorem madeCells_one (z : Value) (n : Nat) : madeCells #[z] n = (List.replicate n z).toArray := by
  apply Array.ext
  · simp [madeCells]
  · intro i h1 h2
    simp [madeCells, Nat.mod_one]
def zcells : Array Value := (zeros.map bv).toArray
/-- make([]byte, 256). -/
theorem Tryz.make256 (w : World) : (Instr.makeSlice 89 (.int .i64 256) (.int .i64 256)).run Tryz.prog w = .ok (.slice (some ⟨w.heap.size, 0, none⟩) 256 256) (w.alloc (.cells zcells 5)) := by
  obtain ⟨i0, hi, hz0, hz1, hz2⟩ := info_parts Tryz.infoU8
  have h := run_makeSlice (w := w) 89 5 i0 (.int .u8 0) Tryz.underlying89 hi hz0 .i64 .i64 256 256 (by decide) (by decide) (by rw [hz1]; decide) (by rw [hz2]; decide) (by decide)
  rw [h, hz1]
  have e : madeCells (Value.int IntKind.u8 0).cells ((256 : Int).toNat * 1) = zcells := by
    show madeCells #[Value.int IntKind.u8 0] 256 = zcells
    rw [madeCells_one, zcells, zeros, List.map_replicate]
    rfl
  rw [e]
  rfl
theorem zcells_blk {w : World} {g : Nat} {Q : Nat → Prop} (h : Blk w g 5 zcells) (hQ : Q g) : BytesAt Q w (.slice (some ⟨g, 0, none⟩) 256 256) zeros :=
  ⟨g, 256, zcells, by rw [zeros_length], hQ, h, by rw [zeros_length]; exact Nat.le_refl _, by unfold maxLen; omega, by rw [zcells, List.size_toArray, List.length_map, zeros_length], by rw [zcells, List.take_of_length_le]; rw [List.length_map]; exact Nat.le_refl _⟩

def Dsk.new (n : Nat) : Dsk := ⟨List.replicate n zeros, [], 0, false, 0⟩

theorem Tryz.infoBytes : (Tryz.prog.info? 89).map (fun i => (i.zero, i.size, i.bytes)) = some (some (.slice none 0 0), 1, 24) := by kernel_rfl

set_option maxRecDepth 100000 in
set_option maxHeartbeats 1000000 in
theorem newDisk_bad (n : Int) (w : World) (h : n < 4 ∨ 1024 < n) :
    Calls Tryz.prog 48 #[.int .i64 n] w fun e w' => e = .returned (.tuple #[.pointer none, .int .i64 2]) ∧ w = w' := by
  by_cases h1 : n < 4
  all_goals
    first
      | (have h2 : decide (n < 4) = true := by simpa using h1)
      | (have h2 : decide (n < 4) = false := by simpa using h1
         have h3 : decide (1024 < n) = true := by simp; omega)
    go_enter Tryz.func48, Tryz.ntmps48
    go_wp2
    go_ret2
    exact ⟨rfl, rfl⟩

theorem alloc_new2 (w : World) (o1 o2 : Obj) : ((w.alloc o1).alloc o2).heap[w.heap.size + 1]? = some o2 := by
  have := heap_alloc_new (w.alloc o1) o2
  rwa [World.size_alloc] at this

/-- k blocks are made. -/
def Making (w : World) (k : Nat) (wr : World) : Prop :=
  ∃ sv xs, Blk wr w.heap.size 94 #[sv, .slice none 0 0, .int .i64 0, .bool false, .int .i64 0] ∧ wr.ownsRow (w.heap.size + 1) 89 1 sv k xs ∧ (∀ x ∈ xs, BytesAt (w.heap.size ≤ ·) wr x zeros) ∧ Below w.heap.size w wr

theorem making_step {w wr w3 : World} {k gg cap2 : Nat} {sv : Value} {xs : List Value} (hb : Blk wr w.heap.size 94 #[sv, .slice none 0 0, .int .i64 0, .bool false, .int .i64 0]) (hown : wr.ownsRow (w.heap.size + 1) 89 1 sv k xs) (hxs : ∀ x ∈ xs, BytesAt (w.heap.size ≤ ·) wr x zeros) (hbel : Below w.heap.size w wr) {o : Obj}
    (hown3 : w3.ownsRow (w.heap.size + 1) 89 1 (.slice (some ⟨gg, 0, none⟩) (k + 1) cap2) (k + 1) (xs ++ [.slice (some ⟨wr.heap.size, 0, none⟩) 256 256])) (hgrow : (((wr.alloc (.cells zcells 5)).alloc o).drew).grownBy w3 sv.ownBlock) (_hat : sv.ownBlock = some gg ∨ gg = wr.heap.size + 2) :
    Making w (k + 1) (w3.setCell ⟨w.heap.size, 0, none⟩ (.slice (some ⟨gg, 0, none⟩) (k + 1) cap2)) := by
  have hne : sv.ownBlock ≠ some w.heap.size := own_blk_ne hown hb (by decide)
  have hlt := hb.lt
  have B3 : Blk w3 w.heap.size _ _ := Blk.grown (((hb.alloc (.cells zcells 5)).alloc o).drew) hgrow hne
  have hz : Blk (((wr.alloc (.cells zcells 5)).alloc o).drew) wr.heap.size 5 zcells := ((Blk.new wr _ zcells).alloc o).drew
  have hne2 : gg ≠ w.heap.size := fun e => own_blk_ne hown3 B3 (by decide) (by simp [Value.ownBlock, e])
  have k3 : Keeps (fun k => sv.ownBlock = some k) wr w3 := (((Keeps.refl _ wr).alloc _).alloc _).drew.grown hgrow (fun g h _ => h)
  have kz : Keeps (fun k => sv.ownBlock = some k) (((wr.alloc (.cells zcells 5)).alloc o).drew) w3 := (Keeps.refl _ _).grown hgrow (fun g h _ => h)
  have hu : ∀ {u : World} {g : Nat} {cs : Array Value}, u.ownsRow (w.heap.size + 1) 89 1 sv k xs → sv.ownBlock = some g → Blk u g 5 cs → False := fun h e hk => own_blk_ne h hk (by decide) e
  have k4 := Keeps.set1 w3 w.heap.size 0 (.slice (some ⟨gg, 0, none⟩) (k + 1) cap2)
  refine ⟨_, _, B3.set_ 0 _, ownsRow_keeps hown3 k4 (fun g hg e => by simp [Value.ownBlock] at hg; omega), ?_, ?_⟩
  · intro x hx
    have hy : BytesAt (w.heap.size ≤ ·) w3 x zeros := by
      rcases List.mem_append.1 hx with h | h
      · exact (hxs x h).keeps k3 (fun g cs e _ hk => hu hown e hk)
      · simp only [List.mem_singleton] at h
        subst h
        exact (zcells_blk hz hbel.size).keeps kz (fun g cs e _ hk => hu (((hown.alloc _).alloc _).drew) e hk)
    exact hy.keeps k4 (fun g cs e _ hk => by subst e; exact Blk.ne_ hk B3 (by decide) rfl)
  · exact (((((hbel.alloc hbel.size _).alloc (by simp; omega) o).drew_).grown hgrow (by simp; omega) (fun g e => by
      rcases hown.2 with ⟨hv, _⟩ | ⟨g', cap, cur, hv, hbb, _⟩
      · rw [hv] at e
        simp [Value.ownBlock] at e
      · rw [hv] at e
        simp [Value.ownBlock] at e
        omega))).setCell (p := ⟨w.heap.size, 0, none⟩) (Nat.le_refl _) _

theorem making_end {P : Nat → Prop} {w wr : World} {n : Nat} (hP : ∀ k, w.heap.size ≤ k → P k) (h0 : 0 < n) (h2 : n ≤ 1024) (h : Making w n wr) : ∃ S, DiskAt P wr w.heap.size (Dsk.new n) S ∧ ∀ k ∈ S, w.heap.size ≤ k := by
  obtain ⟨sv, xs, hb, hown, hxs, hbel⟩ := h
  have hl := hown.1
  rcases hown.2 with ⟨_, h0', _⟩ | ⟨g, cap, cur, rfl, hbb, hg, hnc, hcm, hcs, ht⟩
  · omega
  · have hcs' : cur.size = cap := by simpa using hcs
    subst hcs'
    refine ⟨[w.heap.size, g], ⟨⟨?_, fun p hp => by simp [Dsk.new] at hp, by simpa [Dsk.new] using h0, by simpa [Dsk.new] using h2, by simp [Dsk.new]⟩, g, cur, .slice none 0 0, [], rfl, ?_⟩, ?_⟩
    · intro l hl
      simp only [Dsk.new, List.mem_replicate] at hl
      rw [hl.2, zeros_length]
    · refine ⟨by simpa [Dsk.new] using hb, hg, by simpa [Dsk.new] using hnc, ?_, ⟨rfl, .inl ⟨rfl, rfl⟩⟩, rfl, fun j p hj => by simp [Dsk.new] at hj, fun k hk => hP k (Nat.le_trans hbel.size hk)⟩
      intro i l hi
      have hi' : i < n ∧ l = zeros := by
        simp only [Dsk.new, List.getElem?_replicate] at hi
        split at hi
        · rename_i hlt
          exact ⟨hlt, by simpa using hi.symm⟩
        · cases hi
      obtain ⟨hin, rfl⟩ := hi'
      have hxi : i < xs.length := by omega
      have e1 : cur[i]? = some xs[i] := by
        have : (cur.toList.take (n * 1))[i]? = some xs[i] := by rw [ht]; exact List.getElem?_eq_getElem hxi
        rw [List.getElem?_take, if_pos (by omega)] at this
        simpa using this
      exact ⟨_, e1, (hxs _ (List.getElem_mem hxi)).mono hP⟩
    · intro k hk
      simp only [List.mem_cons, List.not_mem_nil, or_false] at hk
      rcases hk with rfl | rfl <;> omega

set_option maxRecDepth 100000 in
set_option maxHeartbeats 2000000 in
theorem newDisk_good (P : Nat → Prop) (n : Nat) (w : World) (h1 : 4 ≤ n) (h2 : n ≤ 1024) (hP : ∀ k, w.heap.size ≤ k → P k) :
    Calls Tryz.prog 48 #[.int .i64 (n : Int)] w fun e w' => e = .returned (.tuple #[.pointer (some ⟨w.heap.size, 0, none⟩), .int .i64 0]) ∧ (∃ S, DiskAt P w' w.heap.size (Dsk.new n) S ∧ ∀ k ∈ S, w.heap.size ≤ k) ∧ Below w.heap.size w w' := by
  have t1 : decide ((n : Int) < 4) = false := by simp; omega
  have t2 : decide ((1024 : Int) < n) = false := by simp; omega
  obtain ⟨iw, hiw, hz0, hz1, hz2⟩ := info_parts Tryz.infoBytes
  have hmk := Tryz.make256
  go_enter Tryz.func48, Tryz.ntmps48
  go_wp2
  go_loopw [14] (fun i wr => ∃ k : Nat, k ≤ n ∧ i = .int .i64 k ∧ Making w k wr) (fun i _ => n - (intOf i).toNat)
  case atStart => exact ⟨0, Nat.zero_le _, rfl, .slice none 0 0, [], Blk.new _ _ _, ⟨rfl, .inl ⟨rfl, rfl⟩⟩, by simp, (Below.refl _ _).alloc (Nat.le_refl _) _⟩
  case round =>
    obtain ⟨k, hk, rfl, hM⟩ := hrel
    by_cases hlt : k < n
    · obtain ⟨sv, xs, hb, hown, hxs, hbel⟩ := hM
      have c0 := hb.cell 0
      have f0 := hb.frozen 0
      have hsz0 := hb.lt
      have HN := Lib.hid (fun o1 o2 => alloc_new2 wr o1 o2)
      have hne : sv.ownBlock ≠ some w.heap.size := own_blk_ne hown hb (by decide)
      go_wp2
      go_region_law
        (refine step_append_lies _ (by rfl) _ _ _ (by rfl) (w.heap.size + 1) 89 iw _ 1 24 Tryz.underlying91 hiw hz0 hz1 hz2 rfl (by omega) sv k xs (by rfl) ?_
            ⟨wr.heap.size + 1, 0, none⟩ 1 1 [.slice (some ⟨wr.heap.size, 0, none⟩) 256 256] (by rfl) (by rfl) ?_ (by simp [Value.oneCell'])
            (by omega) (by unfold maxLen; omega) (by omega) ?_ (wr.heap.size + 2) ?_ ?_; exact ((hown.alloc _).alloc _).drew; exact World.news_of_block (cs := #[.slice (some ⟨wr.heap.size, 0, none⟩) 256 256]) (t := 89) (fr := (0, 0)) (HN.out _ _); (simp; omega); simp; intro gg cap2 w3 hown3 hgrow hat hlt3; have B3 := Blk.grown (((hb.alloc _).alloc _).drew) hgrow hne; have hc3 : w3.cell? ⟨w.heap.size, 0, none⟩ = some sv := B3.cell 0; have hf3 := B3.frozen 0)
      all_goals
        go_wp2
        go_roundw
        case rel => exact ⟨k + 1, by omega, by go_num, making_step hb hown hxs hbel hown3 hgrow hat⟩
        case measure => simp [intOf]; omega
    · obtain rfl : k = n := by omega
      go_wp2
      go_ret2
      refine ⟨rfl, making_end hP (by omega) h2 hM, ?_⟩
      obtain ⟨_, _, _, _, _, hbel⟩ := hM
      exact hbel

end Go.Proofs.YtbgiklkpinflaaaGreat
