/- slices.Backward at the pending writes. -/
import Derived.Test.YtbgiklkpinflaaaDisk4
import Derived.RangeFuncBox
import Derived.RangeFuncNested
import Derived.RangeFuncLeaves
import Derived.RangeFuncFrom
import Derived.RangeFuncWrites
import Derived.Shelf.Abstract
import Derived.OwnWalkIn
import Derived.TacticsInMore
import Derived.LoopNIn
import Derived.LoopIn
import Derived.Outline
namespace Go.Proofs.Ytbgiklkpinflaaa
open Go.RowKit Go.Shelf
attribute [local go_sem] Oper.semAt_some

/-- The j-th of the pending writes. -/
def pen (ps : List (Nat × Value)) (j : Nat) : Nat × Value := ps[j]?.getD (0, undef)
theorem pen_eq {ps : List (Nat × Value)} {j : Nat} {p : Nat × Value} (h : ps[j]? = some p) : pen ps j = p := by simp [pen, h]

/-- The pending writes ps lie in block g. -/
def PenAt (w : World) (g : Nat) (ps : List (Nat × Value)) : Prop :=
  ∀ j, j < ps.length → w.cell? ⟨g, j * 2, none⟩ = some (.int .i64 ((pen ps j).1 : Int)) ∧ w.cell? ⟨g, j * 2 + 1, none⟩ = some ((pen ps j).2)

theorem penCells_at (ps : List (Nat × Value)) : ∀ j, j < ps.length → (penCells ps)[j * 2]? = some (.int .i64 ((pen ps j).1 : Int)) ∧ (penCells ps)[j * 2 + 1]? = some ((pen ps j).2) := by
  induction ps with
  | nil => intro j h; simp at h
  | cons p ps ih =>
    intro j h
    cases j with
    | zero => exact ⟨rfl, rfl⟩
    | succ j =>
      have := ih j (by simpa using h)
      have e1 : (j + 1) * 2 = j * 2 + 2 := by omega
      rw [e1]
      simpa [penCells, pen] using this

theorem PenAt.of_own {w : World} {base n : Nat} {v : Value} {ps : List (Nat × Value)} (h : w.ownsRow base 109 2 v n (penCells ps)) (hn : 0 < n) : ∃ g cap, v = .slice (some ⟨g, 0, none⟩) n cap ∧ n ≤ cap ∧ v.ownBlock = some g ∧ PenAt w g ps ∧ g < w.heap.size := by
  obtain ⟨h1, h2⟩ := h
  rcases h2 with ⟨_, h0, _⟩ | ⟨g, cap, cur, rfl, hb, hg, hnc, hcm, hcs, ht⟩
  · omega
  · have hl := penCells_length ps
    have hps : n = ps.length := by omega
    refine ⟨g, cap, rfl, hnc, by simp [Value.ownBlock], ?_, Blk.lt (t := 109) hg⟩
    have hC : Cells w g 0 (penCells ps) := take_cells hg ht
    intro j hj
    have := penCells_at ps j hj
    have a1 := hC _ _ this.1
    have a2 := hC _ _ this.2
    simp only [Nat.zero_add] at a1 a2
    exact ⟨a1, a2⟩

theorem PenAt.below {w w' : World} {n g : Nat} {ps : List (Nat × Value)} (h : PenAt w g ps) (hb : Below n w w') (hg : g < n) : PenAt w' g ps := fun j hj =>
  ⟨(hb.cell (p := ⟨g, j * 2, none⟩) hg).trans (h j hj).1, (hb.cell (p := ⟨g, j * 2 + 1, none⟩) hg).trans (h j hj).2⟩

/-- A piece of code that ends as it should: what else may come of it need not be asked. -/
theorem wp_clean {P : Program} {c : Code} {K : Act → World → Prop} {Q : Exit → Act → World → Prop} {a : Act} {w : World} (h : c.wp P (Exit.then K (fun _ _ _ => False)) a w) : c.wp P (Exit.then K Q) a w :=
  wp_mono h fun e a w hh => by cases e <;> first | exact hh | exact hh.elim

/-- What no block but cells turns leaves a block of cells alone. -/
theorem Blk.own_ {w w' : World} {row : Option Nat} {g : Nat} {t : TypeId} {cs : Array Value} (h : Blk w g t cs) (hg : w.grownBy w' row) (hr : ∀ r, row = some r → ∃ o : Obj, w.heap[r]? = some o ∧ o.isCells = false) : Blk w' g t cs :=
  h.grown hg fun e => by
    obtain ⟨o, ho, hn⟩ := hr g e
    unfold Blk at h
    rw [h] at ho
    cases ho
    cases hn
theorem BytesAt.own_ {P : Nat → Prop} {w w' : World} {row : Option Nat} {v : Value} {l : List UInt8} (h : BytesAt P w v l) (hg : w.grownBy w' row) (hr : ∀ r, row = some r → ∃ o : Obj, w.heap[r]? = some o ∧ o.isCells = false) : BytesAt P w' v l := by
  obtain ⟨g, cap, cur, hv, hp, hb, rest⟩ := h
  exact ⟨g, cap, cur, hv, hp, hb.own_ hg hr, rest⟩

/-- The first k that come, from the last on. -/
def downTo (n k : Nat) : List Nat := (List.range k).map fun j => n - 1 - j
theorem downTo_succ (n k : Nat) : downTo n (k + 1) = downTo n k ++ [n - 1 - k] := by simp [downTo, List.range_succ]
theorem downTo_length (n k : Nat) : (downTo n k).length = k := by simp [downTo]

/-- An index of a pending write. -/
abbrev PIx (ps : List (Nat × Value)) := { j : Nat // j < ps.length }
/-- What the loop's variables are at index j. -/
def penEnc (ps : List (Nat × Value)) (j : PIx ps) : Array Value := #[.int .i64 (j.1 : Int), .agg #[.int .i64 ((pen ps j.1).1 : Int), (pen ps j.1).2]]

set_option maxRecDepth 100000 in
set_option maxHeartbeats 2000000 in
theorem back1_in (F : Fence) (n : Nat) (hF : F.fn 83) (hro : F.round = none) (hn : 1 ≤ n) (l Bs n₀ b cap : Nat) (ps : List (Nat × Value)) (hreach : ps.length ≤ 1000000000) (hb : b < n₀) (J Jx : List (PIx ps) → World → Prop)
    (hY : ∀ pre x W, J pre W → pre.length < ps.length → YieldAt F (n - 1) Try.prog l (penEnc ps x) W fun e W' =>
      (e = .returned (.bool true) ∧ J (pre ++ [x]) W' ∧ Below n₀ W W') ∨ (e = .returned (.bool false) ∧ Jx (pre ++ [x]) W'))
    (W : World) (hBn : Bs < n₀) (hBs : W.cell? ⟨Bs, 0, none⟩ = some (.slice (some ⟨b, 0, none⟩) ps.length cap)) (hc : PenAt W b ps) (h0 : J [] W) :
    CallsIn F n Try.prog 83 #[.func (.yield l) #[] #[], .pointer (some ⟨Bs, 0, none⟩)] W fun e W' => (∃ v, e = .returned v) ∧
      ((∃ ys : List (PIx ps), ys.map (·.1) = downTo ps.length ps.length ∧ J ys W') ∨ (∃ pre : List (PIx ps), (∃ k, k ≤ ps.length ∧ pre.map (·.1) = downTo ps.length k) ∧ Jx pre W')) := by
  refine callsIn_of_wp Try.func83 rfl hF ?_ hro
  simp only [Try.ntmps83, List.size_toArray, List.length_cons, List.length_nil, Nat.reduceAdd, Nat.reduceSub, Array.replicate_succ, Array.replicate_zero, List.push_toArray, List.append_toArray, List.nil_append, List.cons_append]
  gi_wp2
  gi_loopw [3] (fun i wr => ∃ k : Nat, k ≤ ps.length ∧ i = .int .i64 ((ps.length : Int) - 1 - k) ∧ (∃ pre : List (PIx ps), pre.map (·.1) = downTo ps.length k ∧ J pre wr) ∧ Below n₀ W wr) (fun i _ => (intOf i + 1).toNat)
  case atStart => exact ⟨0, Nat.zero_le _, by simp, ⟨[], rfl, h0⟩, Below.refl _ _⟩
  case round =>
    obtain ⟨k, hk, rfl, ⟨pre, hpre, hJs⟩, hnx⟩ := hrel
    have HP := Lib.hid hpre
    have hplen : pre.length = k := by have := congrArg List.length hpre; simpa [downTo_length] using this
    clear hpre
    have hbs := (hnx.cell (p := ⟨Bs, 0, none⟩) hBn).trans hBs
    by_cases hlt : k < ps.length
    · obtain ⟨m, hm⟩ : ∃ m : Nat, m = ps.length - 1 - k := ⟨_, rfl⟩
      have e1 : (ps.length : Int) - 1 - k = (m : Int) := by omega
      have hml : m < ps.length := by omega
      rw [e1]
      have hcm := (hc.below hnx hb) m (by omega)
      obtain ⟨hc1, hc2⟩ := hcm
      obtain ⟨fn, tmps, assign, body, hy, hR⟩ := hY pre ⟨m, hml⟩ wr hJs (by rw [hplen]; exact hlt)
      unfold penEnc at hy
      dsimp only at hy
      clear hplen
      have HE := Lib.hid e1
      have HM := Lib.hid hm
      clear e1 hm
      gi_wp2
      refine hR.mono ?_
      rintro e W3 (⟨rfl, hJ3, hk3⟩ | ⟨rfl, hJx3⟩)
      · gi_wp2
        go_roundw
        case rel => exact ⟨k + 1, by omega, by have := HE.out; congr 1; omega, ⟨_, by rw [downTo_succ, ← HM.out, List.map_append, HP.out]; rfl, hJ3⟩, hnx.trans hk3⟩
        case measure => simp [intOf]
      · gi_wp2
        refine bodyPost_ret (results_none rfl _ _ _) rfl ?_
        exact ⟨⟨_, rfl⟩, .inr ⟨_, ⟨k + 1, by omega, by rw [downTo_succ, ← HM.out, List.map_append, HP.out]; rfl⟩, hJx3⟩⟩
    · have e1 : (ps.length : Int) - 1 - k = -1 := by omega
      have hk2 : k = ps.length := by omega
      have HK := Lib.hid hk2
      clear hk2 hplen
      rw [e1]
      gi_wp2
      go_end0
      exact ⟨⟨_, rfl⟩, .inl ⟨_, by rw [HP.out, HK.out], hJs⟩⟩

set_option maxRecDepth 100000 in
set_option maxHeartbeats 1000000 in
theorem back1_nil_in (F : Fence) (n : Nat) (hF : F.fn 83) (hro : F.round = none) (l Bs cap : Nat) (A : Option Addr) {α : Type} (J : List α → World → Prop) (W : World) (hBs : W.cell? ⟨Bs, 0, none⟩ = some (.slice A 0 cap)) (h0 : J [] W) :
    CallsIn F n Try.prog 83 #[.func (.yield l) #[] #[], .pointer (some ⟨Bs, 0, none⟩)] W fun e W' => (∃ v, e = .returned v) ∧ J [] W' := by
  refine callsIn_of_wp Try.func83 rfl hF ?_ hro
  simp only [Try.ntmps83, List.size_toArray, List.length_cons, List.length_nil, Nat.reduceAdd, Nat.reduceSub, Array.replicate_succ, Array.replicate_zero, List.push_toArray, List.append_toArray, List.nil_append, List.cons_append]
  gi_wp2
  gi_loopw [3] (fun i wr => i = .int .i64 (-1) ∧ J [] wr) (fun _ _ => 0)
  case atStart => exact ⟨rfl, h0⟩
  case round =>
    obtain ⟨rfl, hJs⟩ := hrel
    gi_wp2
    go_end0
    exact ⟨⟨_, rfl⟩, hJs⟩

set_option maxHeartbeats 1000000 in
/-- slices.Backward: the slice is boxed; the function value captures the box. -/
theorem back_in (F : Fence) (n : Nat) (hF : F.fn 72) (hro : F.round = none) (a : Option Addr) (len cap : Nat) (w : World) :
    CallsIn F n Try.prog 72 #[.slice a len cap] w fun e w' => e = .returned (.func (.func 83) #[] #[.pointer (some ⟨w.heap.size, 0, none⟩)]) ∧ w' = w.alloc (.cells #[.slice a len cap] 97) := by
  refine callsIn_of_wp Try.func72 rfl hF ?_ hro
  simp only [Try.ntmps72, List.size_toArray, List.length_cons, List.length_nil, Nat.reduceAdd, Nat.reduceSub, Array.replicate_succ, Array.replicate_zero, List.push_toArray, List.append_toArray, List.nil_append, List.cons_append]
  gi_wp2
  go_ret
  exact ⟨rfl, rfl⟩

/-- The slice value pv holds the pending writes ps, in a block below n₀; or there are none. -/
def PenSlice (n₀ : Nat) (w : World) (pv : Value) (ps : List (Nat × Value)) : Prop :=
  ∃ A cap, pv = .slice A ps.length cap ∧ (0 < ps.length → ∃ g, A = some ⟨g, 0, none⟩ ∧ g < n₀ ∧ PenAt w g ps)

theorem PenSlice.of_own {w : World} {base n : Nat} {v : Value} {ps : List (Nat × Value)} (h : w.ownsRow base 109 2 v n (penCells ps)) (hl : ps.length = n) : PenSlice w.heap.size w v ps := by
  rcases Nat.eq_zero_or_pos n with h0 | h0
  · rcases h.2 with ⟨hv, _⟩ | ⟨g, cap, cur, rfl, hb, hg, hnc, hcm, hcs, ht⟩
    · exact ⟨none, 0, by rw [hv, hl, h0], by omega⟩
    · exact ⟨_, cap, by rw [hl], by omega⟩
  · obtain ⟨g, cap, rfl, _, _, hp, hg⟩ := PenAt.of_own h h0
    exact ⟨_, cap, by rw [hl], fun _ => ⟨g, rfl, hg, hp⟩⟩

theorem PenSlice.below {w w' : World} {n : Nat} {v : Value} {ps : List (Nat × Value)} (h : PenSlice n w v ps) (hb : Below n w w') : PenSlice n w' v ps := by
  obtain ⟨A, cap, hv, hc⟩ := h
  exact ⟨A, cap, hv, fun h0 => let ⟨g, h1, h2, h3⟩ := hc h0; ⟨g, h1, h2, h3.below hb h2⟩⟩

/-- What slices.Backward hands back: the indices from the last on, with their writes. -/
theorem back_stops (F : Fence) (n : Nat) (hF : F.fn 83) (hro : F.round = none) (hn : 1 ≤ n) (Bs n₀ : Nat) (pv : Value) (ps : List (Nat × Value)) (hreach : ps.length ≤ 1000000000) (w : World) (hBn : Bs < n₀) (hBs : Bs < w.heap.size) (hn₀ : n₀ ≤ w.heap.size)
    (hc : w.cell? ⟨Bs, 0, none⟩ = some pv) (hI : PenSlice n₀ w pv ps) :
    SeqStopsK F n Try.prog 83 #[.pointer (some ⟨Bs, 0, none⟩)] (penEnc ps) (Below n₀) (fun ys => ys.map (·.1) = downTo ps.length ps.length) (fun pre => ∃ k, k ≤ ps.length ∧ pre.map (·.1) = downTo ps.length k) ps.length w := fun l J Jx W hW _ _ hY h0 => by
  have hc' := (hW.cell (p := ⟨Bs, 0, none⟩) hBs).trans hc
  obtain ⟨A, cap, rfl, hcs⟩ := hI.below (hW.mono hn₀)
  rcases Nat.eq_zero_or_pos ps.length with hz | hz
  · rw [hz] at hc'
    exact (back1_nil_in F n hF hro l Bs cap A J W hc' h0).mono fun e W' ⟨he, hj⟩ => ⟨he, .inl ⟨[], by show ([] : List Nat) = downTo ps.length ps.length; rw [hz]; rfl, hj⟩⟩
  · obtain ⟨g, rfl, hg, hp⟩ := hcs hz
    exact back1_in F n hF hro hn l Bs n₀ g cap ps hreach hg J Jx hY W hBn hc' hp h0

end Go.Proofs.Ytbgiklkpinflaaa
