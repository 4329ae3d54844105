/- (*Disk).Read. -/
import Derived.Test.YtbgiklkpinflaaaRead1
namespace Go.Proofs.Ytbgiklkpinflaaa
open Go.RowKit Go.Shelf
attribute [local go_sem] Oper.semAt_some

/-- What block i holds, with the writes that wait. -/
def Dsk.see (D : Dsk) (i : Nat) : List UInt8 := ((D.pending.reverse.find? (fun p => p.1 == i)).map (·.2)).getD (D.blocks[i]?.getD [])
def Dsk.read (D : Dsk) (i : Int) : Int × List UInt8 :=
  if D.down then (50, []) else if i < 0 ∨ (D.blocks.length : Int) ≤ i then (51, []) else (0, D.see i.toNat)

/-- The slice v holds l, in a block from B on; it may be nil where there are none. -/
def Got (B : Nat) (w : World) (v : Value) (l : List UInt8) : Prop := (v = .slice none 0 0 ∧ l = []) ∨ BytesAt (B ≤ ·) w v l

def ReadPost (w : World) (r : Int × List UInt8) (e : Ending) (w' : World) : Prop :=
  ∃ v, e = .returned (.tuple #[v, .int .i64 r.1]) ∧ Got w.heap.size w' v r.2 ∧ Below w.heap.size w w'

set_option maxRecDepth 100000 in
set_option maxHeartbeats 2000000 in
theorem read_down (b n c : Nat) (A : Option Addr) (i : Int) (w : World) (h0 : w.cell? ⟨b, 0, none⟩ = some (.slice A n c)) (hn : 0 < n) (hm : n ≤ 1024) (h3 : w.cell? ⟨b, 3, none⟩ = some (.bool true)) :
    Calls Try.prog 44 #[.pointer (some ⟨b, 0, none⟩), .int .i64 i] w (ReadPost w (50, [])) := by
  have hb : b < w.heap.size := World.block_lt_of_cell? w _ h0
  have h0' : ∀ o1 o2 o3, (((w.alloc o1).alloc o2).alloc o3).cell? ⟨b, 0, none⟩ = some (.slice A n c) := fun _ _ _ => Lib.cell?_alloc_some _ (Lib.cell?_alloc_some _ (Lib.cell?_alloc_some _ h0))
  have h3' : ∀ o1 o2 o3, (((w.alloc o1).alloc o2).alloc o3).cell? ⟨b, 3, none⟩ = some (.bool true) := fun _ _ _ => Lib.cell?_alloc_some _ (Lib.cell?_alloc_some _ (Lib.cell?_alloc_some _ h3))
  go_enter Try.func44, Try.ntmps44
  go_wp2_with (go_at_call 55; refine (down_any b n c A true _ (h0' _ _ _) hn hm (h3' _ _ _)).mono ?_; rintro e w' ⟨rfl, rfl⟩)
  refine bodyPost_ret (v := .tuple #[.slice none 0 0, .int .i64 50]) (by simp [results, Try.f44, go_sem]) rfl ⟨.slice none 0 0, rfl, .inl ⟨rfl, rfl⟩, ?_⟩
  exact (((Below.refl _ w).alloc (Nat.le_refl _) _).alloc (by simp) _).alloc (by simp; omega) _

set_option maxRecDepth 100000 in
set_option maxHeartbeats 2000000 in
theorem read_bad (b n c : Nat) (A : Option Addr) (i : Int) (w : World) (h0 : w.cell? ⟨b, 0, none⟩ = some (.slice A n c)) (hn : 0 < n) (hm : n ≤ 1024) (h3 : w.cell? ⟨b, 3, none⟩ = some (.bool false)) (hbad : i < 0 ∨ (n : Int) ≤ i) :
    Calls Try.prog 44 #[.pointer (some ⟨b, 0, none⟩), .int .i64 i] w (ReadPost w (51, [])) := by
  have hb : b < w.heap.size := World.block_lt_of_cell? w _ h0
  have h0' : ∀ o1 o2 o3, (((w.alloc o1).alloc o2).alloc o3).cell? ⟨b, 0, none⟩ = some (.slice A n c) := fun _ _ _ => Lib.cell?_alloc_some _ (Lib.cell?_alloc_some _ (Lib.cell?_alloc_some _ h0))
  have h3' : ∀ o1 o2 o3, (((w.alloc o1).alloc o2).alloc o3).cell? ⟨b, 3, none⟩ = some (.bool false) := fun _ _ _ => Lib.cell?_alloc_some _ (Lib.cell?_alloc_some _ (Lib.cell?_alloc_some _ h3))
  by_cases hi : i < 0
  all_goals
    first
      | have hi' : decide (i < 0) = true := by simpa using hi
      | (have hi' : decide (i < 0) = false := by simpa using hi
         have hj' : decide ((n : Int) ≤ i) = true := by simp; omega)
    go_enter Try.func44, Try.ntmps44
    go_wp2_with (go_at_call 55; refine (down_any b n c A false _ (h0' _ _ _) hn hm (h3' _ _ _)).mono ?_; rintro e w' ⟨rfl, rfl⟩)
    go_quiet (fail)
    go_wp2
    refine bodyPost_ret (v := .tuple #[.slice none 0 0, .int .i64 51]) (by simp [results, Try.f44, go_sem]) rfl ⟨.slice none 0 0, rfl, .inl ⟨rfl, rfl⟩, ?_⟩
    exact ((((((Below.refl w.heap.size w).alloc (Nat.le_refl _) _).alloc (by simp) _).alloc (by simp; omega) _).drewN_ nq).setCell (p := ⟨w.heap.size + 1, 0, none⟩) (by simp) _).setCell (p := ⟨w.heap.size + 1 + 1, 0, none⟩) (by simp; omega) _

theorem DiskRep.pen_at {P : Nat → Prop} {w : World} {b : Nat} {D : Dsk} {g1 : Nat} {cur1 : Array Value} {pv : Value} {ps : List (Nat × Value)} (h : DiskRep P w b D g1 cur1 pv ps) (j : Nat) (hj : j < ps.length) :
    ∃ l, D.pending[j]? = some ((pen ps j).1, l) ∧ BytesAt P w (pen ps j).2 l := by
  have hj' : j < D.pending.length := by rw [← h.pslen]; exact hj
  obtain ⟨v, hv, hB⟩ := h.pl j D.pending[j] (List.getElem?_eq_getElem hj')
  rw [pen_eq hv]
  exact ⟨_, List.getElem?_eq_getElem hj', hB⟩

theorem Dsk.see_none {D : Dsk} {i : Nat} (h : ∀ (j : Nat) (p : Nat × List UInt8), D.pending[j]? = some p → p.1 ≠ i) : D.see i = D.blocks[i]?.getD [] := by
  unfold Dsk.see
  rw [List.find?_eq_none.2]
  · rfl
  · intro p hp
    obtain ⟨j, hj⟩ := List.mem_iff_getElem?.1 (List.mem_reverse.1 hp)
    simpa using h j p hj
theorem Dsk.see_last {D : Dsk} {i m : Nat} {l : List UInt8} (hm : D.pending[m]? = some (i, l)) (h : ∀ (j : Nat) (p : Nat × List UInt8), m < j → D.pending[j]? = some p → p.1 ≠ i) : D.see i = l := by
  unfold Dsk.see
  obtain ⟨hlt, he⟩ := List.getElem?_eq_some_iff.1 hm
  have e : D.pending = D.pending.take m ++ ((i, l) :: D.pending.drop (m + 1)) := by
    rw [← he, List.getElem_cons_drop, List.take_append_drop]
  rw [e, List.reverse_append, List.reverse_cons, List.find?_append, List.find?_append, List.find?_eq_none.2]
  · simp
  · intro p hp
    obtain ⟨j, hj⟩ := List.mem_iff_getElem?.1 (List.mem_reverse.1 hp)
    rw [List.getElem?_drop] at hj
    have := h (m + 1 + j) p (by omega) hj
    simpa using this
theorem mem_downTo {n k j : Nat} : j ∈ downTo n k ↔ ∃ t, t < k ∧ j = n - 1 - t := by simp [downTo, eq_comm]

/-- The read's end. -/
theorem read_end {w W : World} {Dd : Nat} {v : Value} {l : List UInt8} {a : Act} (hd : a.defers = [{ target := .collected Dd, args := #[] }]) (h4 : a.tmps[4]?.getD undef = .pointer (some ⟨w.heap.size + 1, 0, none⟩)) (h5 : a.tmps[5]?.getD undef = .pointer (some ⟨w.heap.size + 1 + 1, 0, none⟩))
    (hK : W.heap[Dd]? = some (.deferred (some []))) (B4 : Blk W (w.heap.size + 1) 26 #[v]) (B5 : Blk W (w.heap.size + 1 + 1) 27 #[.int .i64 0]) (hB : BytesAt (w.heap.size ≤ ·) W v l) (hbw : Below w.heap.size w W) (hD : w.heap.size ≤ Dd) :
    bodyPostM Fence.wide 3 Try.prog Try.f44 (ReadPost w (0, l)) .ret a W := by
  have hg := grownBy_putObj' W Dd (.deferred none)
  have hr : ∀ r, some Dd = some r → ∃ o : Obj, W.heap[r]? = some o ∧ o.isCells = false := fun r e => by cases e; exact ⟨_, hK, rfl⟩
  have c4 := (B4.own_ hg hr).cell 0
  have c5 := (B5.own_ hg hr).cell 0
  show LeavesInM _ _ _ _ a.tmps _ a.defers _ _
  rw [hd]
  refine ⟨by simp, .inl ⟨_, _, rfl, run_takeDeferred hK, ?_⟩⟩
  obtain ⟨g, cap, cur, hv, _⟩ := id hB
  refine ⟨.tuple #[v, .int .i64 0], ?_, v, rfl, .inr (hB.own_ hg hr), hbw.trans ?_⟩
  · have e4 : (W.putObj Dd (.deferred none)).cell? ⟨w.heap.size + 1, 0, none⟩ = some v := c4
    have e5 : (W.putObj Dd (.deferred none)).cell? ⟨w.heap.size + 1 + 1, 0, none⟩ = some (.int .i64 0) := c5
    simp [results, Try.f44, go_sem, h4, h5, e4, e5]
  · exact ⟨hg.os, hg.tape, hg.output, hg.size, fun k hk => hg.block k (by have := hbw.size; omega) (by intro e; cases e; omega)⟩

/-- The loop has found the write. -/
def ReadStop (w : World) (i : Nat) (ps : List (Nat × Value)) (D : Dsk) (pre : List (PIx ps)) (W : World) : Prop :=
  (∃ ini last l v, pre = ini ++ [last] ∧ (∀ j ∈ ini, (pen ps j.1).1 ≠ i) ∧ (pen ps last.1).1 = i ∧ D.pending[last.1]? = some ((pen ps last.1).1, l) ∧
    Blk W (w.heap.size + 1) 26 #[v] ∧ Blk W (w.heap.size + 1 + 1) 27 #[.int .i64 0] ∧ BytesAt (w.heap.size ≤ ·) W v l) ∧ Below w.heap.size w W
theorem readStop_own {w : World} {i : Nat} {ps : List (Nat × Value)} {D : Dsk} {B : Nat} (hB : w.heap.size ≤ B) : OwnFrom B (fun pre W => ReadStop w i ps D pre W) := by
  refine OwnFrom.and (Own.from ?_ _) (ownFrom_below (Nat.le_refl _) hB)
  rintro pre W W' row ⟨ini, last, l, v, h1, h2, h3, h4, h5, h6, h7⟩ hg hr
  exact ⟨ini, last, l, v, h1, h2, h3, h4, h5.own_ hg hr, h6.own_ hg hr, h7.own_ hg hr⟩
theorem PenSlice.mono_ {w : World} {n m : Nat} {v : Value} {ps : List (Nat × Value)} (h : PenSlice n w v ps) (hm : n ≤ m) : PenSlice m w v ps := by
  obtain ⟨A, cap, hv, hc⟩ := h
  exact ⟨A, cap, hv, fun h0 => let ⟨g, h1, h2, h3⟩ := hc h0; ⟨g, h1, Nat.lt_of_lt_of_le h2 hm, h3⟩⟩

set_option maxRecDepth 100000 in
set_option maxHeartbeats 4000000 in
theorem read_good {P : Nat → Prop} {b : Nat} {D : Dsk} {g1 : Nat} {cur1 : Array Value} {pv : Value} {ps : List (Nat × Value)} (w : World) (h : DiskRep P w b D g1 cur1 pv ps) (ho : DskOk D) (hd : D.down = false)
    (i : Nat) (hi : i < D.blocks.length) (hn : D.pending.length ≤ 1000000000) :
    Calls Try.prog 44 #[.pointer (some ⟨b, 0, none⟩), .int .i64 (i : Int)] w (ReadPost w (0, D.see i)) := by
  have h0 := h.c0
  have h3 := h.c3
  rw [hd] at h3
  have hs := ho.some_
  have hf := ho.few
  have hb : b < w.heap.size := h.hb.lt
  have h0' : ∀ o1 o2 o3, (((w.alloc o1).alloc o2).alloc o3).cell? ⟨b, 0, none⟩ = some (.slice (some ⟨g1, 0, none⟩) D.blocks.length cur1.size) := fun _ _ _ => Lib.cell?_alloc_some _ (Lib.cell?_alloc_some _ (Lib.cell?_alloc_some _ h0))
  have h1' : ∀ o1 o2 o3, (((w.alloc o1).alloc o2).alloc o3).cell? ⟨b, 1, none⟩ = some pv := fun _ _ _ => Lib.cell?_alloc_some _ (Lib.cell?_alloc_some _ (Lib.cell?_alloc_some _ h.c1))
  have h3' : ∀ o1 o2 o3, (((w.alloc o1).alloc o2).alloc o3).cell? ⟨b, 3, none⟩ = some (.bool false) := fun _ _ _ => Lib.cell?_alloc_some _ (Lib.cell?_alloc_some _ (Lib.cell?_alloc_some _ h3))
  have i0 : decide ((i : Int) < 0) = false := by simp
  have i1 : decide ((D.blocks.length : Int) ≤ (i : Int)) = false := by simpa using hi
  have HPS := Lib.hid (PenSlice.of_own h.own h.pslen)
  obtain ⟨Ap, np, cp, hpv⟩ : ∃ Ap np cp, pv = .slice Ap np cp := by
    obtain ⟨A, cap, hv, _⟩ := HPS.out
    exact ⟨_, _, _, hv⟩
  subst hpv
  have H := Lib.hid h
  clear h
  refine callsIn_wide.1 (callsIn_of_wp_marks (n := 3) (F := Fence.wide) Try.func44 rfl trivial (wpIn_wide.2 ?_) rfl)
  simp only [Try.ntmps44, List.size_toArray, List.length_cons, List.length_nil, Nat.reduceAdd, Nat.reduceSub, Array.replicate_succ, Array.replicate_zero, List.push_toArray, List.append_toArray, List.nil_append, List.cons_append]
  go_wp2_with (go_at_call 55; refine (down_any b _ _ _ false _ (h0' _ _ _) hs hf (h3' _ _ _)).mono ?_; rintro e w' ⟨rfl, rfl⟩)
  go_quiet (fail)
  go_wp2_with (go_at_call 72; refine (callsIn_wide.1 (back_in Fence.wide 2 trivial rfl _ _ _ _)).mono ?_; rintro e w' ⟨rfl, rfl⟩)
  have hB0 : Below w.heap.size w (((((w.alloc (.cells #[.int .i64 (i : Int)] 3)).alloc (.cells #[.slice none 0 0] 26)).alloc (.cells #[.int .i64 0] 27)).drewN nq).alloc (.cells #[.slice Ap np cp] 97)) :=
    (((((Below.refl w.heap.size w).alloc (Nat.le_refl _) _).alloc (by simp) _).alloc (by simp; omega) _).drewN_ nq).alloc (by simp; omega) _
  have hsz : (((((w.alloc (.cells #[.int .i64 (i : Int)] 3)).alloc (.cells #[.slice none 0 0] 26)).alloc (.cells #[.int .i64 0] 27)).drewN nq).alloc (.cells #[.slice Ap np cp] 97)).heap.size = w.heap.size + 4 := by simp
  have b3 := ((((Blk.new w 3 #[.int .i64 (i : Int)]).alloc (.cells #[.slice none 0 0] 26)).alloc (.cells #[.int .i64 0] 27)).drewN nq).alloc (.cells #[.slice Ap np cp] 97)
  have b4 := (((Blk.new (w.alloc (.cells #[.int .i64 (i : Int)] 3)) 26 #[.slice none 0 0]).alloc (.cells #[.int .i64 0] 27)).drewN nq).alloc (.cells #[.slice Ap np cp] 97)
  have b5 := ((Blk.new ((w.alloc (.cells #[.int .i64 (i : Int)] 3)).alloc (.cells #[.slice none 0 0] 26)) 27 #[.int .i64 0]).drewN nq).alloc (.cells #[.slice Ap np cp] 97)
  have bs := Blk.new ((((w.alloc (.cells #[.int .i64 (i : Int)] 3)).alloc (.cells #[.slice none 0 0] 26)).alloc (.cells #[.int .i64 0] 27)).drewN nq) 97 #[.slice Ap np cp]
  have hbs : ((((w.alloc (.cells #[.int .i64 (i : Int)] 3)).alloc (.cells #[.slice none 0 0] 26)).alloc (.cells #[.int .i64 0] 27)).drewN nq).heap.size = w.heap.size + 1 + 1 + 1 := by simp
  rw [hbs] at bs
  simp only [World.size_alloc] at b4 b5
  obtain ⟨W0, hW0⟩ : ∃ W0, (((((w.alloc (.cells #[.int .i64 (i : Int)] 3)).alloc (.cells #[.slice none 0 0] 26)).alloc (.cells #[.int .i64 0] 27)).drewN nq).alloc (.cells #[.slice Ap np cp] 97)) = W0 := ⟨_, rfl⟩
  rw [hW0] at hB0 hsz b3 b4 b5 bs ⊢
  clear hW0 h0' h1' h3' hbs
  have hR0 : DiskRep P W0 b D g1 cur1 (.slice Ap np cp) ps := H.out.keeps (F := fun _ => False) (Keeps.of_below hB0) (fun _ _ => id) (fun _ _ h => h.elim)
  have HR := Lib.hid hR0
  clear hR0 H
  have HSZ := Lib.hid hsz
  have hszl : w.heap.size + 4 ≤ W0.heap.size := by omega
  have hszg : W0.heap.size ≤ w.heap.size + 4 := by omega
  clear hsz
  refine (wpIn_wide (n := 3)).1 ?_
  refine wpIn_rangeFunc_ownH (F := Fence.wide) rfl (by decide) (gf := 83) (lb := #[.pointer (some ⟨w.heap.size + 1 + 1 + 1, 0, none⟩)]) rfl trivial (enters_of Try.func83 (by kernel_rfl) rfl)
    (back_stops Fence.wide 2 trivial rfl (by decide) (w.heap.size + 1 + 1 + 1) W0.heap.size _ ps (by rw [HR.out.pslen]; exact hn) W0 (by omega) (by omega) (Nat.le_refl _) (bs.cell 0) (HPS.out.below hB0 |>.mono_ hB0.size)) belowK_t (belowK_b (Nat.le_refl _)) (Below.refl _ _) (fun _ => rfl)
    (fun pre W => (∀ j ∈ pre, (pen ps j.1).1 ≠ i) ∧ Below W0.heap.size W0 W)
    (fun c pre W => c = .ret ∧ ReadStop w i ps D pre W)
    ?hI ?hIx ⟨by simp, Below.refl _ _⟩
    (fun x a' W => ∃ Bx, W0.heap.size ≤ Bx ∧ Blk W Bx 109 #[.int .i64 ((pen ps x.1).1 : Int), (pen ps x.1).2] ∧ a' = { tmps := #[.pointer (some ⟨b, 0, none⟩), .int .i64 (i : Int), undef, .pointer (some ⟨w.heap.size, 0, none⟩), .pointer (some ⟨w.heap.size + 1, 0, none⟩), .pointer (some ⟨w.heap.size + 1 + 1, 0, none⟩), undef, .pointer (some ⟨Bx, 0, none⟩), .bool false, .pointer (some ⟨b, 0, none⟩), .bool false, .bool false, .int .i64 (i : Int), .bool false, .bool false, .int .i64 (i : Int), .pointer (some ⟨b, 0, none⟩), .pointer (some ⟨b, 0, none⟩), .pointer (some ⟨b, 0, none⟩), .slice (some ⟨g1, 0, none⟩) D.blocks.length cur1.size, .int .i64 (D.blocks.length : Int), .bool false, .bool false, .pointer (some ⟨b, 0, none⟩), .pointer (some ⟨b, 0, none⟩), .pointer (some ⟨b, 1, none⟩), .slice Ap np cp, .func (.func 83) #[] #[.pointer (some ⟨w.heap.size + 1 + 1 + 1, 0, none⟩)], .int .i64 (x.1 : Int), .agg #[.int .i64 ((pen ps x.1).1 : Int), (pen ps x.1).2], undef, undef, undef, undef, undef, undef, undef, undef, undef, undef, undef, undef, undef, undef, undef], defers := [] })
    (fun x a' _ X Y row hs hg hr => by obtain ⟨Bx, h1, h2, h3⟩ := hs; exact ⟨Bx, h1, h2.own_ hg (fun r e => (hr r e).2), h3⟩)
    ?assign ?body ?done ?stop
  case hI => exact OwnFrom.and (fun _ _ _ _ hs _ _ => hs) (ownFrom_below (Nat.le_refl _) (Nat.le_refl _))
  case hIx =>
    intro c
    exact OwnFrom.and (fun _ _ _ _ hs _ _ => hs) (readStop_own (by omega))
  case assign =>
    rintro l pre x W K ⟨hp, hB⟩ hK
    obtain ⟨l', _, hB'⟩ := HR.out.pen_at x.1 x.2
    obtain ⟨gx, cx, cur, hvx, _⟩ := hB'
    have HV := Lib.hid hvx
    have HK := Lib.hid hK
    clear hK
    simp only [penEnc, hvx]
    clear hvx
    gi_wp2
    refine HK.out _ _ ((KeepsOthers.alloc _ _).from _) ((Below.refl _ W).alloc hB.size _) ⟨hp, hB.alloc hB.size _⟩ ⟨W.heap.size, hB.size, ?_, ?_⟩
    · rw [HV.out]; exact Blk.new W _ _
    · rw [HV.out]
  case body =>
    rintro l pre x a' W hl ⟨r, hr⟩ ⟨hp, hB⟩ ⟨Bx, hBx, bX, rfl⟩ hlt
    obtain ⟨l', hl', hB'⟩ := HR.out.pen_at x.1 x.2
    have hB2 : BytesAt P W (pen ps x.1).2 l' := hB'.keeps (F := fun _ => False) (Keeps.of_below hB) (fun _ _ h => h.elim)
    obtain ⟨gx, cx, _, hvx, _, _, _, hCx⟩ := hB2.cells
    have hll : l'.length = 256 := (ho.pen _ (List.mem_of_getElem? hl')).2
    have HLL := Lib.hid hll
    clear hll
    have HB2 := Lib.hid hB2
    have hx0 := bX.cell 0
    have hx1 := bX.cell 1
    have c3 : W.cell? ⟨w.heap.size, 0, none⟩ = some (.int .i64 (i : Int)) := (hB.cell (p := ⟨w.heap.size, 0, none⟩) (show w.heap.size < W0.heap.size by omega)).trans (b3.cell 0)
    have B4 : Blk W (w.heap.size + 1) 26 #[.slice none 0 0] := b4.below hB (by omega)
    have B5 : Blk W (w.heap.size + 1 + 1) 27 #[.int .i64 0] := b5.below hB (by omega)
    have HV := Lib.hid hvx
    have HL' := Lib.hid hl'
    rw [hvx] at hx1
    clear hB2 hB' hvx hl'
    by_cases hx : (pen ps x.1).1 = i
    · have t1 : (((pen ps x.1).1 : Int) == (i : Int)) = true := by simp [hx]
      have t2 : ((pen ps x.1).1 == i) = true := by simp [hx]
      have HX := Lib.hid hx
      clear hx
      gi_wp2_with (refine ⟨trivial, ?_⟩; gi_at_call 31; refine (CallsIn.inRound l (callsIn_wide.2 (clone_bytes gx 0 l'.length cx l' _ rfl (by rw [HLL.out]; decide) hCx))).mono ?_; rintro e w2 ⟨g', cap, rfl, hB', hbel⟩; have B4' := B4.belowH hbel rfl B4.lt; have B5' := B5.belowH hbel rfl B5.lt; have f4 := B4'.frozen 0; have f5 := B5'.frozen 0; have d4 : w2.cell? ⟨w.heap.size + 1, 0, none⟩ = some (.slice none 0 0) := B4'.cell 0; have d5 : w2.cell? ⟨w.heap.size + 1 + 1, 0, none⟩ = some (.int .i64 0) := B5'.cell 0)
      have hszW := hB.size
      have k2 : Keeps (fun k => k = w.heap.size + 1 ∨ k = w.heap.size + 1 + 1) w2 ((w2.setCell ⟨w.heap.size + 1, 0, none⟩ (.slice (some ⟨g', 0, none⟩) l'.length cap)).setCell ⟨w.heap.size + 1 + 1, 0, none⟩ (.int .i64 0)) :=
        ((Keeps.refl _ w2).setCell (p := ⟨w.heap.size + 1, 0, none⟩) (fun _ => .inl rfl) _).setCell (p := ⟨w.heap.size + 1 + 1, 0, none⟩) (fun _ => .inr rfl) _
      have hbw : Below w.heap.size w w2 := (hB0.trans (hB.mono (by omega))).trans (hbel.mono (by omega))
      refine ⟨?_, rfl, ⟨pre, x, l', _, rfl, hp, HX.out, HL'.out, (B4'.set_ 0 _).far (p := ⟨w.heap.size + 1 + 1, 0, none⟩) (show w.heap.size + 1 ≠ w.heap.size + 1 + 1 by omega) _, (B5'.far (p := ⟨w.heap.size + 1, 0, none⟩) (show w.heap.size + 1 + 1 ≠ w.heap.size + 1 by omega) _).set_ 0 _, ?_⟩, ?_⟩
      · refine ⟨by simpa [World.setCell] using hbel.size, fun k o _ hk ho => ?_⟩
        have hkW : k < W.heap.size := (Array.getElem?_eq_some_iff.1 hk).1
        have n4 : k ≠ w.heap.size + 1 := by
          rintro rfl
          have hB4 : W.heap[w.heap.size + 1]? = _ := B4
          rw [hB4] at hk
          cases hk
          cases ho
        have n5 : k ≠ w.heap.size + 1 + 1 := by
          rintro rfl
          have hB5 : W.heap[w.heap.size + 1 + 1]? = _ := B5
          rw [hB5] at hk
          cases hk
          cases ho
        exact (k2.block k (Nat.lt_of_lt_of_le hkW hbel.size) (by rintro (h | h); exact n4 h; exact n5 h)).trans ((hbel.block k hkW).trans hk)
      · refine (hB'.keeps k2 ?_).mono ?_
        · rintro g cs (rfl | rfl) hp' _
          · omega
          · omega
        · intro g hg
          omega
      · exact (hbw.setCell (p := ⟨w.heap.size + 1, 0, none⟩) (by simp) _).setCell (p := ⟨w.heap.size + 1 + 1, 0, none⟩) (by simp; omega) _
    · have t1 : (((pen ps x.1).1 : Int) == (i : Int)) = false := by rw [beq_eq_false_iff_ne]; omega
      have t2 : ((pen ps x.1).1 == i) = false := by simpa using hx
      have HX := Lib.hid hx
      clear hx
      gi_wp2
      refine ⟨KeepsFrom.refl _ _, Below.refl _ _, ?_, hB⟩
      intro j hj
      rcases List.mem_append.1 hj with h | h
      · exact hp j h
      · simp only [List.mem_singleton] at h
        subst h
        exact HX.out
  case done =>
    rintro Dd ys W hD hys ⟨hp, hB⟩ hK
    have hsee : D.see i = D.blocks[i]?.getD [] := by
      refine Dsk.see_none fun j p hj => ?_
      have hjl : j < ps.length := by rw [HR.out.pslen]; exact (List.getElem?_eq_some_iff.1 hj).1
      have hm : j ∈ ys.map (·.1) := by rw [hys]; exact mem_downTo.2 ⟨ps.length - 1 - j, by omega, by omega⟩
      obtain ⟨x, hx, rfl⟩ := List.mem_map.1 hm
      obtain ⟨l, hl, _⟩ := HR.out.pen_at x.1 x.2
      rw [hl] at hj
      cases hj
      exact hp x hx
    obtain ⟨vb, hvb, hBb⟩ := HR.out.bl i D.blocks[i] (List.getElem?_eq_getElem hi)
    obtain ⟨gx, cx, _, hvx, _, _, _, hCx⟩ := (hBb.keeps (F := fun _ => False) (Keeps.of_below hB) (fun _ _ h => h.elim)).cells
    subst hvx
    have hRW : DiskRep P W b D g1 cur1 (.slice Ap np cp) ps := HR.out.keeps (F := fun _ => False) (Keeps.of_below hB) (fun _ _ => id) (fun _ _ h => h.elim)
    have hcb : W.cell? ⟨g1, i, none⟩ = some (.slice (some ⟨gx, 0, none⟩) D.blocks[i].length cx) := (hRW.hg.cell i).trans hvb
    have hc0 := hRW.c0
    have c3 : W.cell? ⟨w.heap.size, 0, none⟩ = some (.int .i64 (i : Int)) := (hB.cell (p := ⟨w.heap.size, 0, none⟩) (show w.heap.size < W0.heap.size by omega)).trans (b3.cell 0)
    have B4 : Blk W (w.heap.size + 1) 26 #[.slice none 0 0] := b4.below hB (by omega)
    have B5 : Blk W (w.heap.size + 1 + 1) 27 #[.int .i64 0] := b5.below hB (by omega)
    clear hRW
    have hbl : D.blocks[i].length = 256 := ho.blk _ (List.getElem_mem hi)
    have HBL := Lib.hid hbl
    have hbl2 : D.blocks[i].length ≤ 70368744177664 := by omega
    clear hbl
    have HS := Lib.hid hsee
    clear hsee
    obtain ⟨lb, hlb⟩ : ∃ lb, D.blocks[i] = lb := ⟨_, rfl⟩
    have HLB := Lib.hid hlb
    rw [hlb] at hcb hCx hbl2 HBL
    clear hlb hvb hBb
    have hK2 := Lib.hid hK
    clear hK
    have HP := Lib.hid hp
    have HY := Lib.hid hys
    clear hp hys
    go_wp2
    refine wp_clean ?_
    go_region_law
      (go_simp; go_at_call 31; refine (clone_bytes gx 0 lb.length cx lb _ rfl hbl2 ?_).mono ?_; exact hCx; rintro e w2 ⟨g', cap, rfl, hB', hbel⟩; have B4' := B4.belowH hbel rfl B4.lt; have B5' := B5.belowH hbel rfl B5.lt; have f4 := B4'.frozen 0; have f5 := B5'.frozen 0; have d4 : w2.cell? ⟨w.heap.size + 1, 0, none⟩ = some (.slice none 0 0) := B4'.cell 0; have d5 : w2.cell? ⟨w.heap.size + 1 + 1, 0, none⟩ = some (.int .i64 0) := B5'.cell 0)
    all_goals
      go_wp2
      have hszW := hB.size
      have k2 : Keeps (fun k => k = w.heap.size + 1 ∨ k = w.heap.size + 1 + 1) w2 ((w2.setCell ⟨w.heap.size + 1, 0, none⟩ (.slice (some ⟨g', 0, none⟩) lb.length cap)).setCell ⟨w.heap.size + 1 + 1, 0, none⟩ (.int .i64 0)) :=
        ((Keeps.refl _ w2).setCell (p := ⟨w.heap.size + 1, 0, none⟩) (fun _ => .inl rfl) _).setCell (p := ⟨w.heap.size + 1 + 1, 0, none⟩) (fun _ => .inr rfl) _
      have hbel2 : Below W.heap.size W w2 := ⟨hbel.os, hbel.tape, hbel.output, hbel.size, hbel.block⟩
      have hbw : Below w.heap.size w w2 := (hB0.trans (hB.mono (by omega))).trans (hbel2.mono (by omega))
      rw [HS.out, List.getElem?_eq_getElem hi, Option.getD_some, HLB.out]
      have hDW : Dd < W.heap.size := (Array.getElem?_eq_some_iff.1 hK2.out).1
      refine read_end rfl rfl rfl (Dd := Dd) ?_ ((B4'.set_ 0 _).far (p := ⟨w.heap.size + 1 + 1, 0, none⟩) (show w.heap.size + 1 ≠ w.heap.size + 1 + 1 by omega) _) ((B5'.far (p := ⟨w.heap.size + 1, 0, none⟩) (show w.heap.size + 1 + 1 ≠ w.heap.size + 1 by omega) _).set_ 0 _) ?_ ((hbw.setCell (p := ⟨w.heap.size + 1, 0, none⟩) (by simp) _).setCell (p := ⟨w.heap.size + 1 + 1, 0, none⟩) (by simp; omega) _) (by omega)
      · exact (k2.block Dd (Nat.lt_of_lt_of_le hDW hbel2.size) (by omega)).trans ((hbel2.block Dd hDW).trans hK2.out)
      · refine (hB'.keeps k2 ?_).mono ?_
        · rintro g cs (rfl | rfl) hp' _
          · have hp'' : W.heap.size ≤ w.heap.size + 1 := hp'
            omega
          · have hp'' : W.heap.size ≤ w.heap.size + 1 + 1 := hp'
            omega
        · intro g hg
          have hg' : W.heap.size ≤ g := hg
          omega
  case stop =>
    rintro Dd c pre W hD ⟨k, hk, hpre⟩ ⟨rfl, ⟨ini, last, l, v, rfl, hini, hlast, hl, B4, B5, hBy⟩, hbw⟩ hK
    have hsee : D.see i = l := by
      rw [hlast] at hl
      refine Dsk.see_last hl fun j p hj hp => ?_
      have hjl : j < ps.length := by rw [HR.out.pslen]; exact (List.getElem?_eq_some_iff.1 hp).1
      obtain ⟨k', rfl⟩ : ∃ k', k = k' + 1 := by
        cases k with
        | zero => simp [downTo] at hpre
        | succ k' => exact ⟨k', rfl⟩
      rw [downTo_succ, List.map_append] at hpre
      obtain ⟨e1, e2⟩ := List.append_inj' hpre rfl
      have e3 : last.1 = ps.length - 1 - k' := by simpa using e2
      have hm : j ∈ ini.map (·.1) := by rw [e1]; exact mem_downTo.2 ⟨ps.length - 1 - j, by omega, by omega⟩
      obtain ⟨x, hx, rfl⟩ := List.mem_map.1 hm
      obtain ⟨l, hl, _⟩ := HR.out.pen_at x.1 x.2
      rw [hl] at hp
      cases hp
      exact hini x hx
    rw [hsee]
    refine (wpIn_wide (n := 3)).2 ?_
    go_wp2
    exact read_end rfl rfl rfl hK B4 B5 hBy hbw (by omega)

end Go.Proofs.Ytbgiklkpinflaaa
