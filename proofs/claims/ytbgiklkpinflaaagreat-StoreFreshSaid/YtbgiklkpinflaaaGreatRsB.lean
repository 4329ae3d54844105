/- The reference's states: without, with. The reference's states: with. -/
import Derived.Test.YtbgiklkpinflaaaGreatJoB
import Derived.Test.YtbgiklkpinflaaaGreatKeptA

namespace Go.Proofs.YtbgiklkpinflaaaGreat
open Go.RowKit Go.Shelf
attribute [local go_sem ↓] Go.wp_at_zero Go.wp_at_succ

theorem Tryz.infoEnt : (Tryz.prog.info? 114).map (fun i => (i.zero, i.size, i.bytes)) = some (some (.agg #[.string ⟨#[]⟩, .slice none 0 0, .int .i64 0]), 3, 48) := by kernel_rfl
/-- A list of entries is being made, in the variable at block o. -/
def Adding (w : World) (o : Nat) (gen : Int) (qs : List (Ent × Value)) (wr : World) : Prop :=
  Below w.heap.size w wr ∧ w.heap.size ≤ o ∧ ∃ v, Blk wr o 46 #[.int .i64 gen, v] ∧ wr.ownsRow (o + 1) 114 3 v qs.length (entCells qs)
section
variable {w wr W2 w3 : World} {o : Nat} {gen : Int} {qs : List (Ent × Value)}
theorem Adding.below (h : Adding w o gen qs wr) (hb : Below wr.heap.size wr W2) : Adding w o gen qs W2 := by
  obtain ⟨h1, h2, v, h3, h4⟩ := h
  refine ⟨h1.trans (hb.mono h1.size), h2, v, h3.below hb h3.lt, ?_⟩
  exact ownsRow_keeps h4 (Keeps.of_below (F := fun _ => False) hb) (fun _ _ h => h)
theorem Adding.val (h : Adding w o gen qs wr) : ∃ A c, Blk wr o 46 #[.int .i64 gen, .slice A qs.length c] ∧ wr.ownsRow (o + 1) 114 3 (.slice A qs.length c) qs.length (entCells qs) := by
  obtain ⟨h1, h2, v, h3, h4⟩ := h
  rcases h4.2 with ⟨e, h0⟩ | ⟨g, cap, cur, e, _⟩
  · have h0 : qs.length = 0 := h0
    subst e
    exact ⟨none, 0, by rw [h0]; exact h3, by rw [h0] at h4 ⊢; exact h4⟩
  · subst e
    exact ⟨_, _, h3, h4⟩
theorem Adding.add (h : Adding w o gen qs wr) (hb : Below wr.heap.size wr W2) {v v3 : Value} {p : Ent × Value} (hv : Blk wr o 46 #[.int .i64 gen, v])
    (hown : w3.ownsRow (o + 1) 114 3 v3 (qs.length + 1) (entCells qs ++ [.string p.1.key, p.2, .int .i64 (p.1.id : Int)])) (hg : W2.grownBy w3 v.ownBlock) : Adding w o gen (qs ++ [p]) (w3.setCell ⟨o, 1, none⟩ v3) := by
  obtain ⟨h1, h2, v', h3, h4⟩ := h
  have hvv : v' = v := by
    have := congrArg (fun a : Array Value => a[1]?) (h3.det hv).1
    simpa using this
  subst hvv
  have hW : Below w.heap.size w W2 := h1.trans (hb.mono h1.size)
  have hrow : ∀ g, v'.ownBlock = some g → w.heap.size ≤ g := fun g hg => by
    rcases h4.2 with ⟨e, _⟩ | ⟨g', cap, cur, e, hb', _⟩
    · rw [e] at hg; simp [Value.ownBlock] at hg
    · rw [e] at hg; simp [Value.ownBlock] at hg
      omega
  have hB3 : Below w.heap.size w w3 := hW.grown hg hW.size hrow
  have ho2 : Blk W2 o 46 #[.int .i64 gen, v'] := hv.below hb hv.lt
  have hno : v'.ownBlock ≠ some o := own_blk_ne h4 hv (by decide)
  have ho3 : Blk w3 o 46 #[.int .i64 gen, v'] := ho2.grown hg hno
  refine ⟨hB3.setCell h2 _, h2, v3, ho3.set_ 1 v3, ?_⟩
  have e1 : (qs ++ [p]).length = qs.length + 1 := by simp
  have e2 : entCells (qs ++ [p]) = entCells qs ++ [.string p.1.key, p.2, .int .i64 (p.1.id : Int)] := by rw [entCells_append]; simp [entCells]
  rw [e1, e2]
  exact ownsRow_keeps hown (Keeps.set1 w3 o 1 v3) fun g hg e => own_blk_ne hown ho3 (by decide) (by rw [hg, e])
theorem Adding.start (hb : Below w.heap.size w wr) (ho : w.heap.size ≤ o) (h : Blk wr o 46 #[.int .i64 gen, .slice none 0 0]) : Adding w o gen [] wr :=
  ⟨hb, ho, _, h, by simp [entCells], .inl ⟨rfl, rfl⟩⟩
/-- What is behind the making. -/
theorem Adding.ents {P : Nat → Prop} (h : Adding w o gen qs wr) (hB : ∀ p ∈ qs, BytesAt P w p.2 p.1.val) : ∃ v, Blk wr o 46 #[.int .i64 gen, v] ∧ EntsAt P wr v (qs.map (·.1)) := by
  obtain ⟨h1, h2, v, h3, h4⟩ := h
  exact ⟨v, h3, qs, rfl, ownsRow_base (Nat.zero_le _) h4, fun p hp => (hB p hp).below_ h1⟩
end

/-- The state with entries E as a value. -/
def StPost (P : Nat → Prop) (w : World) (gen : Int) (E : List Ent) (e : Ending) (w' : World) : Prop :=
  ∃ A c, e = .returned (.agg #[.int .i64 gen, .slice A E.length c]) ∧ EntsAt P w' (.slice A E.length c) E ∧ Below w.heap.size w w'
theorem EntsAt.slice {P : Nat → Prop} {w : World} {v : Value} {E : List Ent} (h : EntsAt P w v E) : ∃ A c, v = .slice A E.length c := by
  obtain ⟨ps, rfl, h⟩ := h
  obtain ⟨A, c, rfl, _⟩ := h.row
  exact ⟨A, c, by rw [List.length_map]⟩
def woP (k : ByteArray) (l : List (Ent × Value)) : List (Ent × Value) := l.filter fun y => decide (y.1.key ≠ k)
theorem woP_ents (k : ByteArray) (l : List (Ent × Value)) : (woP k l).map (·.1) = withoutE k (l.map (·.1)) := by
  unfold woP withoutE
  rw [List.filter_map]
  rfl
theorem woP_take {k : ByteArray} {l : List (Ent × Value)} {j : Nat} {p : Ent × Value} (h : l[j]? = some p) : woP k (l.take (j + 1)) = if p.1.key = k then woP k (l.take j) else woP k (l.take j) ++ [p] := by
  obtain ⟨hj, rfl⟩ := List.getElem?_eq_some_iff.1 h
  unfold woP
  rw [List.take_succ_eq_append_getElem hj, List.filter_append]
  by_cases e : l[j].1.key = k
  · simp [e]
  · simp [e]

set_option maxRecDepth 100000 in
set_option maxHeartbeats 4000000 in
theorem without_calls {P : Nat → Prop} {w : World} {v : Value} {E : List Ent} (h : EntsAt P w v E) (gen : Int) (k : ByteArray) (hl : E.length ≤ 1000) :
    Calls Tryz.prog 105 #[.agg #[.int .i64 gen, v], .string k] w (StPost P w gen (withoutE k E)) := by
  obtain ⟨ps, rfl, h⟩ := h
  have hpl : ps.length ≤ 1000 := by simpa using hl
  obtain ⟨A, c, rfl, hrow⟩ := h.row
  have HROW := Lib.hid hrow
  have HB := Lib.hid h.2
  obtain ⟨iw, hiw, hz0, hz1, hz2⟩ := info_parts Tryz.infoEnt
  clear hrow h hl
  go_enter Tryz.func105, Tryz.ntmps105
  go_wp2
  have hst0 : Adding w (w.heap.size + 1 + 1) gen (woP k (ps.take 0)) (((w.alloc (.cells #[.int .i64 gen, .slice A ps.length c] 46)).alloc (.cells #[.int .i64 0, .slice none 0 0] 46)).alloc (.cells #[.int .i64 gen, .slice none 0 0] 46)) := by
    refine Adding.start ((((Below.refl _ w).alloc (Nat.le_refl _) _).alloc (by simp) _).alloc (by simp; omega) _) (by omega) ?_
    have := Blk.new ((w.alloc (.cells #[.int .i64 gen, .slice A ps.length c] 46)).alloc (.cells #[.int .i64 0, .slice none 0 0] 46)) 46 #[.int .i64 gen, .slice none 0 0]
    simp only [World.size_alloc] at this
    exact this
  have hst1 : Blk (((w.alloc (.cells #[.int .i64 gen, .slice A ps.length c] 46)).alloc (.cells #[.int .i64 0, .slice none 0 0] 46)).alloc (.cells #[.int .i64 gen, .slice none 0 0] 46)) (w.heap.size + 1) 46 #[.int .i64 0, .slice none 0 0] := by
    have := (Blk.new (w.alloc (.cells #[.int .i64 gen, .slice A ps.length c] 46)) 46 #[.int .i64 0, .slice none 0 0]).alloc (.cells #[.int .i64 gen, .slice none 0 0] 46)
    simp only [World.size_alloc] at this
    exact this
  have HS0 := Lib.hid hst0
  have HS1 := Lib.hid hst1
  clear hst0 hst1
  go_loopw [14] (fun x wr => ∃ j : Nat, j ≤ ps.length ∧ x = .int .i64 j ∧ Adding w (w.heap.size + 1 + 1) gen (woP k (ps.take j)) wr ∧ Blk wr (w.heap.size + 1) 46 #[.int .i64 0, .slice none 0 0]) (fun x _ => ps.length - (intOf x).toNat)
  case atStart => exact ⟨0, Nat.zero_le _, rfl, HS0.out, HS1.out⟩
  case round =>
    obtain ⟨j, hj, rfl, hA, hR⟩ := hrel
    have hM := hA.1
    have HA := Lib.hid hA
    have HR := Lib.hid hR
    by_cases hlt : j < ps.length
    · have tk : decide ((j : Int) < (ps.length : Int)) = true := by simp; omega
      obtain ⟨g, rfl, q0, q1, q2⟩ := HROW.out j _ (List.getElem?_eq_getElem hlt)
      obtain ⟨gx, cx, curx, hvx, _⟩ := (HB.out _ (List.getElem_mem hlt)).cells
      rw [hvx] at q1
      have q0 := (hM.cell (World.block_lt_of_cell? w _ q0)).trans q0
      have q1 := (hM.cell (World.block_lt_of_cell? w _ q1)).trans q1
      have q2 := (hM.cell (World.block_lt_of_cell? w _ q2)).trans q2
      have HT := Lib.hid (woP_take (k := k) (List.getElem?_eq_getElem hlt))
      obtain ⟨p, hp⟩ : ∃ p, p = ps[j] := ⟨_, rfl⟩
      rw [← hp] at q0 q1 q2 HT hvx
      have HVX := Lib.hid hvx
      clear hM hA hR hvx hp
      by_cases he : p.1.key = k
      · have HE := Lib.hid he
        clear he
        have he2 : (p.1.key.toList == k.toList) = true := by rw [keq]; simpa using HE.out
        have he3 : (p.1.key.toList != k.toList) = false := by simp only [bne, he2]; rfl
        go_wp2
        go_roundw
        case rel =>
          refine ⟨j + 1, by omega, by go_num, ?_, HR.out.alloc _⟩
          rw [HT.out, if_pos HE.out]
          exact HA.out.below ((Below.refl _ wr).alloc (Nat.le_refl _) _)
        case measure => simp [intOf]; omega
      · have HE := Lib.hid he
        clear he
        have he2 : (p.1.key.toList == k.toList) = false := by rw [keq]; simpa using HE.out
        have he3 : (p.1.key.toList != k.toList) = true := by simp only [bne, he2]; rfl
        obtain ⟨Ao, co, hbo, hown⟩ := HA.out.val
        have hlen : (woP k (ps.take j)).length ≤ j := Nat.le_trans (List.length_filter_le _ _) (by rw [List.length_take]; omega)
        obtain ⟨qs, hqs⟩ : ∃ qs, qs = woP k (ps.take j) := ⟨_, rfl⟩
        rw [← hqs] at hbo hown hlen HT HA
        have HQS := Lib.hid hqs
        have c1 : wr.cell? ⟨w.heap.size + 1 + 1, 1, none⟩ = some (.slice Ao qs.length co) := hbo.cell 1
        have c1a : ∀ o, (wr.alloc o).cell? ⟨w.heap.size + 1 + 1, 1, none⟩ = some (.slice Ao qs.length co) := fun o => (hbo.alloc o).cell 1
        have HBO := Lib.hid hbo
        have HOWN := Lib.hid hown
        have hwz : w.heap.size + 1 + 1 < wr.heap.size := hbo.lt
        clear hbo hown hqs
        go_wp2_with (at_builtin; refine wpList_append_lies _ rfl _ _ 44 rfl (w.heap.size + 1 + 1 + 1) 114 iw (.agg #[.string ⟨#[]⟩, .slice none 0 0, .int .i64 0]) 3 48 Tryz.underlying44 hiw hz0 hz1 hz2 rfl (by decide) _ _ _ rfl ((HOWN.out.alloc _).alloc _) ⟨wr.heap.size + 1, 0, none⟩ 1 1 [.string p.1.key, .slice (some ⟨gx, 0, none⟩) p.1.val.length cx, .int .i64 (p.1.id : Int)] rfl rfl ?c1 ?c2 (by decide) ?c3 ?c4 ?c5 (wr.heap.size + 2) ?c8 ?_)
        case c1 =>
          have e : (wr.alloc (.cells #[.string p.1.key, .slice (some ⟨gx, 0, none⟩) p.1.val.length cx, .int .i64 (p.1.id : Int)] 114)).heap.size = wr.heap.size + 1 := World.size_alloc _ _
          have := World.news_of_block (heap_alloc_new (wr.alloc (.cells #[.string p.1.key, .slice (some ⟨gx, 0, none⟩) p.1.val.length cx, .int .i64 (p.1.id : Int)] 114)) (.cells #[.string p.1.key, .slice (some ⟨gx, 0, none⟩) p.1.val.length cx, .int .i64 (p.1.id : Int)] 114))
          rw [e] at this
          exact this
        case c2 => simp [Value.oneCell']
        case c3 => unfold maxLen; omega
        case c4 => omega
        case c5 => simp; omega
        case c8 => simp
        intro gg cap2 w3 hown3 hgrow3 hat3 hlt3
        have hno : (Value.slice Ao qs.length co).ownBlock ≠ some (w.heap.size + 1 + 1) := own_blk_ne HOWN.out HBO.out (by decide)
        have hno2 : (Value.slice Ao qs.length co).ownBlock ≠ some (w.heap.size + 1) := own_blk_ne HOWN.out HR.out (by decide)
        have B3 := ((HBO.out.alloc (.cells #[.string p.1.key, .slice (some ⟨gx, 0, none⟩) p.1.val.length cx, .int .i64 (p.1.id : Int)] 114)).alloc (.cells #[.string p.1.key, .slice (some ⟨gx, 0, none⟩) p.1.val.length cx, .int .i64 (p.1.id : Int)] 114)).grown hgrow3 hno
        have R3 := Lib.hid (((HR.out.alloc (.cells #[.string p.1.key, .slice (some ⟨gx, 0, none⟩) p.1.val.length cx, .int .i64 (p.1.id : Int)] 114)).alloc (.cells #[.string p.1.key, .slice (some ⟨gx, 0, none⟩) p.1.val.length cx, .int .i64 (p.1.id : Int)] 114)).grown hgrow3 hno2)
        have q3 := B3.cell 1
        have f3 := B3.frozen 1
        have HW3 := Lib.hid hown3
        have HG3 := Lib.hid hgrow3
        clear hown3 hgrow3 hat3 B3 hno hno2
        go_wp2
        go_roundw
        case rel =>
          refine ⟨j + 1, by omega, by go_num, ?_, R3.out.far (p := ⟨w.heap.size + 1 + 1, 1, none⟩) (by show w.heap.size + 1 ≠ w.heap.size + 1 + 1; omega) _⟩
          rw [HT.out, if_neg HE.out]
          refine HA.out.add (((Below.refl _ wr).alloc (Nat.le_refl _) _).alloc (by simp) _) HBO.out ?_ HG3.out
          rw [HVX.out]
          exact HW3.out
        case measure => simp [intOf]; omega
    · obtain rfl : j = ps.length := by omega
      have tk : decide ((ps.length : Int) < ps.length) = false := by simp
      obtain ⟨v, hbo, hE⟩ := hA.ents (P := P) (fun p hp => HB.out p (by
        have := (List.mem_filter.1 hp).1
        rw [List.take_length] at this
        exact this))
      rw [List.take_length, woP_ents] at hE
      obtain ⟨Ae, ce, rfl⟩ := hE.slice
      have c0 : wr.cell? ⟨w.heap.size + 1 + 1, 0, none⟩ = some (.int .i64 gen) := hbo.cell 0
      have c1 : wr.cell? ⟨w.heap.size + 1 + 1, 1, none⟩ = some (.slice Ae (withoutE k (ps.map (·.1))).length ce) := hbo.cell 1
      have r0 := hR.cell 0
      have r1 := hR.cell 1
      have f0 := hR.frozen 0
      have f1 := hR.frozen 1
      have HE := Lib.hid hE
      have HM := Lib.hid hM
      have HSZ : Hid (w.heap.size + 1 < wr.heap.size) := hR.lt
      have HR2 := Lib.hid hR
      clear hA hR hM hE hbo HA HR
      go_wp2
      refine bodyPost_ret (v := .agg #[.int .i64 gen, .slice Ae (withoutE k (ps.map (·.1))).length ce]) (by simp [results, Tryz.results105, go_sem, r0, r1]) rfl ⟨Ae, ce, rfl, ?_, (HM.out.setCell (p := ⟨w.heap.size + 1, 0, none⟩) (by show w.heap.size ≤ w.heap.size + 1; omega) _).setCell (p := ⟨w.heap.size + 1, 1, none⟩) (by show w.heap.size ≤ w.heap.size + 1; omega) _⟩
      exact HE.out.keeps (F := (· = w.heap.size + 1)) ((Keeps.set1 wr _ 0 _).trans (Keeps.set1 _ _ 1 _) (fun _ _ h => h)) (fun g t cs e hb => by
        subst e
        have := (hb.det HR2.out).2
        subst this
        exact ⟨by decide, fun _ => by decide⟩)

/-! ### with -/
theorem bytesLess_lt : ∀ (x y : List UInt8), Op.bytesLess x y = decide (x < y)
  | [], [] => by simp [Op.bytesLess]
  | [], _ :: _ => by simp [Op.bytesLess]
  | _ :: _, [] => by simp [Op.bytesLess]
  | a :: x, b :: y => by
    rw [Bool.eq_iff_iff]
    simp only [Op.bytesLess, Bool.or_eq_true, decide_eq_true_eq, Bool.and_eq_true, beq_iff_eq, bytesLess_lt x y, List.cons_lt_cons_iff]
theorem less_kb (a b : ByteArray) : Op.bytesLess a.toList b.toList = decide (kb a < kb b) := by
  rw [bytesLess_lt, Lib.toList_data, Lib.toList_data]
  rfl

section
variable {ops : Array Oper} {rest : List Oper} {oper : Oper} {a : Act} {Q : Exit → Act → World → Prop}
/-- out.Entries = append(out.Entries, x). -/
theorem wpList_append_ent (hgd : oper.guard = none) (s x : Operand) (hop : oper.op = .call { callee := .builtin .append, args := #[s, x], argTypes := #[44, 44] }) {w wr W : World} {o : Nat} {gen : Int} {qs : List (Ent × Value)} (hA : Adding w o gen qs wr) (hb : Below wr.heap.size wr W) (hl : qs.length ≤ 100000) {n : Nat} (hn : qs.length = n)
    {Ao : Option Addr} {co : Nat} (hbo : Blk wr o 46 #[.int .i64 gen, .slice Ao n co]) (hs : a.eval s = .slice Ao n co) (p : Ent × Value) {ad : Nat} (hx : a.eval x = .slice (some ⟨ad, 0, none⟩) 1 1) (hcell : Blk W ad 114 #[.string p.1.key, p.2, .int .i64 (p.1.id : Int)]) (h1 : p.2.oneCell' = true)
    (h : ∀ A' c' w3, Adding w o gen (qs ++ [p]) (w3.setCell ⟨o, 1, none⟩ (.slice A' (n + 1) c')) → Blk (w3.setCell ⟨o, 1, none⟩ (.slice A' (n + 1) c')) o 46 #[.int .i64 gen, .slice A' (n + 1) c'] → w3.cell? ⟨o, 1, none⟩ = some (.slice Ao n co) → w3.frozen? ⟨o, 1, none⟩ = false → (∀ g t cs, Blk W g t cs → (t ≠ 114 ∨ g ≤ o ∨ wr.heap.size ≤ g) → Blk w3 g t cs) → wpList Tryz.prog ops Q rest (a.put oper.dst (.slice A' (n + 1) c')) w3) :
    wpList Tryz.prog ops Q (oper :: rest) a W := by
  subst hn
  obtain ⟨iw, hiw, hz0, hz1, hz2⟩ := info_parts Tryz.infoEnt
  have hA2 := hA.below hb
  obtain ⟨h1', h2', v, h3, h4⟩ := hA2
  have hv : v = .slice Ao qs.length co := by
    have := congrArg (fun a : Array Value => a[1]?) (h3.det (hbo.below hb hbo.lt)).1
    simpa using this
  subst hv
  refine wpList_append_lies W hgd s x 44 hop (o + 1) 114 iw (.agg #[.string ⟨#[]⟩, .slice none 0 0, .int .i64 0]) 3 48 Tryz.underlying44 hiw hz0 hz1 hz2 rfl (by decide) _ _ _ hs h4 ⟨ad, 0, none⟩ 1 1 [.string p.1.key, p.2, .int .i64 (p.1.id : Int)] hx rfl ?_ ?_ (by decide) ?_ ?_ ?_ W.heap.size rfl ?_
  · exact World.news_of_block hcell
  · intro u hu
    simp only [List.mem_cons, List.not_mem_nil, or_false] at hu
    rcases hu with rfl | rfl | rfl
    · rfl
    · exact h1
    · rfl
  · unfold maxLen; omega
  · omega
  · have := h3.lt
    omega
  · intro g cap w3 hown hgrow hat hlt
    have hother : ∀ g t cs, Blk W g t cs → (t ≠ 114 ∨ g ≤ o ∨ wr.heap.size ≤ g) → Blk w3 g t cs := fun g t cs hb2 hne => hb2.grown hgrow (by
      rcases hne with hne | hne | hne
      · exact own_blk_ne h4 hb2 (Ne.symm hne)
      · intro e
        rcases h4.2 with ⟨e2, _⟩ | ⟨g', cap', cur', e2, hge, _⟩
        · rw [e2] at e; simp [Value.ownBlock] at e
        · rw [e2] at e
          have e : g' = g := by simpa [Value.ownBlock] using e
          omega
      · intro e
        obtain ⟨_, _, v0, hv0, hr0⟩ := hA
        have e3 : v0 = .slice Ao qs.length co := by
          have := congrArg (fun a : Array Value => a[1]?) (hv0.det hbo).1
          simpa using this
        subst e3
        obtain ⟨cs0, hb0⟩ := own_is_blk hr0 e
        have := hb0.lt
        omega)
    have ho3 := hother _ _ _ h3 (.inl (by decide))
    refine h _ _ w3 ?_ ?_ (ho3.cell 1) (ho3.frozen 1) hother
    · exact hA.add hb hbo hown hgrow
    · have := ho3.set_ 1 (.slice (some ⟨g, 0, none⟩) (qs.length + 1) cap)
      exact this
end

end Go.Proofs.YtbgiklkpinflaaaGreat

namespace Go.Proofs.YtbgiklkpinflaaaGreat
open Go.RowKit Go.Shelf
attribute [local go_sem ↓] Go.wp_at_zero Go.wp_at_succ

theorem new_set (w : World) (p : Addr) (u : Value) (t : TypeId) (cs : Array Value) : Blk ((w.setCell p u).alloc (.cells cs t)) w.heap.size t cs := by
  have := Blk.new (w.setCell p u) t cs
  rw [show (w.setCell p u).heap.size = w.heap.size by simp [World.setCell]] at this
  exact this
def neP (k : ByteArray) (l : List (Ent × Value)) : List (Ent × Value) := l.filter fun y => decide (y.1.key ≠ k)
def withP (p : Ent × Value) : List (Ent × Value) → List (Ent × Value)
  | [] => [p]
  | x :: r => if kb x.1.key < kb p.1.key then x :: withP p r else p :: neP p.1.key (x :: r)
theorem withP_cons (p x : Ent × Value) (r : List (Ent × Value)) : withP p (x :: r) = if kb x.1.key < kb p.1.key then x :: withP p r else p :: neP p.1.key (x :: r) := rfl
theorem withP_ents (p : Ent × Value) : ∀ l : List (Ent × Value), (withP p l).map (·.1) = withE p.1 (l.map (·.1))
  | [] => rfl
  | x :: r => by
    show (if kb x.1.key < kb p.1.key then x :: withP p r else p :: neP p.1.key (x :: r)).map (·.1) = withE p.1 (x.1 :: r.map (·.1))
    unfold withE
    split
    · show x.1 :: (withP p r).map (·.1) = _
      rw [withP_ents p r]
    · show p.1 :: (neP p.1.key (x :: r)).map (·.1) = p.1 :: (x.1 :: r.map (·.1)).filter _
      congr 1
      show ((x :: r).filter fun y => decide (y.1.key ≠ p.1.key)).map (·.1) = ((x :: r).map (·.1)).filter _
      rw [List.filter_map]
      rfl
/-- What is still to come. -/
def restP (p : Ent × Value) (d : Bool) (l : List (Ent × Value)) : List (Ent × Value) := if d then neP p.1.key l else withP p l
theorem neP_cons (k : ByteArray) (x : Ent × Value) (r : List (Ent × Value)) : neP k (x :: r) = if x.1.key = k then neP k r else x :: neP k r := by
  unfold neP
  rw [List.filter_cons]
  by_cases h : x.1.key = k <;> simp [h]
theorem withP_mem {p y : Ent × Value} : ∀ {l : List (Ent × Value)}, y ∈ withP p l → y = p ∨ y ∈ l
  | [], h => .inl (by simpa [withP] using h)
  | x :: r, h => by
    unfold withP at h
    split at h
    · rcases List.mem_cons.1 h with h | h
      · exact .inr (by simp [h])
      · rcases withP_mem h with h | h
        · exact .inl h
        · exact .inr (by simp [h])
    · rcases List.mem_cons.1 h with h | h
      · exact .inl h
      · exact .inr (List.mem_filter.1 h).1
theorem withP_length (p : Ent × Value) : ∀ l : List (Ent × Value), (withP p l).length ≤ l.length + 1
  | [] => by simp [withP]
  | x :: r => by
    unfold withP
    split
    · have := withP_length p r
      simp only [List.length_cons]
      omega
    · have := List.length_filter_le (fun y : Ent × Value => decide (y.1.key ≠ p.1.key)) (x :: r)
      unfold neP
      simp only [List.length_cons] at this ⊢
      omega
def Withing (p : Ent × Value) (ps qs : List (Ent × Value)) (d : Bool) (j : Nat) : Prop := qs ++ restP p d (ps.drop j) = withP p ps
section
variable {p x : Ent × Value} {ps qs : List (Ent × Value)} {j : Nat}
theorem Withing.cons (hj : ps[j]? = some x) : ps.drop j = x :: ps.drop (j + 1) := by
  obtain ⟨h1, rfl⟩ := List.getElem?_eq_some_iff.1 hj
  exact List.drop_eq_getElem_cons h1
theorem Withing.lt (h : Withing p ps qs false j) (hj : ps[j]? = some x) (hlt : kb x.1.key < kb p.1.key) : Withing p ps (qs ++ [x]) false (j + 1) := by
  unfold Withing restP at *
  rw [Withing.cons hj] at h
  simp only [Bool.false_eq_true, if_false] at h ⊢
  rw [withP_cons, if_pos hlt] at h
  rw [← h, List.append_assoc]
  rfl
theorem Withing.ge (h : Withing p ps qs false j) (hj : ps[j]? = some x) (hlt : ¬ kb x.1.key < kb p.1.key) : (x.1.key = p.1.key → Withing p ps (qs ++ [p]) true (j + 1)) ∧ (x.1.key ≠ p.1.key → Withing p ps (qs ++ [p] ++ [x]) true (j + 1)) := by
  unfold Withing restP at *
  rw [Withing.cons hj] at h
  simp only [Bool.false_eq_true, if_false, if_true] at h ⊢
  rw [withP_cons, if_neg hlt, neP_cons] at h
  constructor
  · intro e
    rw [if_pos e] at h
    rw [← h, List.append_assoc]
    rfl
  · intro e
    rw [if_neg e] at h
    rw [← h, List.append_assoc, List.append_assoc]
    rfl
theorem Withing.done (h : Withing p ps qs true j) (hj : ps[j]? = some x) : (x.1.key = p.1.key → Withing p ps qs true (j + 1)) ∧ (x.1.key ≠ p.1.key → Withing p ps (qs ++ [x]) true (j + 1)) := by
  unfold Withing restP at *
  rw [Withing.cons hj, neP_cons] at h
  simp only [if_true] at h ⊢
  constructor
  · intro e
    rw [if_pos e] at h
    exact h
  · intro e
    rw [if_neg e] at h
    rw [← h, List.append_assoc]
    rfl
theorem Withing.len {d : Bool} (h : Withing p ps qs d j) : qs.length ≤ ps.length + 1 := by
  have := congrArg List.length h
  rw [List.length_append] at this
  have := withP_length p ps
  omega
theorem Withing.end_ {d : Bool} (h : Withing p ps qs d ps.length) : withP p ps = if d then qs else qs ++ [p] := by
  unfold Withing restP at h
  rw [List.drop_length] at h
  cases d <;> simpa [neP, withP] using h.symm
end

set_option maxRecDepth 100000 in
set_option maxHeartbeats 8000000 in
theorem with_calls {P : Nat → Prop} {w : World} {v : Value} {E : List Ent} (h : EntsAt P w v E) (gen : Int) (e0 : Ent) (v0 : Value) (h0 : BytesAt P w v0 e0.val) (hl : E.length ≤ 1000) :
    Calls Tryz.prog 104 #[.agg #[.int .i64 gen, v], .agg #[.string e0.key, v0, .int .i64 (e0.id : Int)]] w (StPost P w gen (withE e0 E)) := by
  obtain ⟨ps, rfl, h⟩ := h
  have hpl : ps.length ≤ 1000 := by simpa using hl
  obtain ⟨A, c, rfl, hrow⟩ := h.row
  obtain ⟨g0, c0, cur0, rfl, _⟩ := h0.cells
  have HROW := Lib.hid hrow
  have HB := Lib.hid h.2
  have HB0 := Lib.hid h0
  clear hrow h hl h0
  go_enter Tryz.func104, Tryz.ntmps104
  go_wp2
  obtain ⟨W0, hW0⟩ : ∃ W0, W0 = (((w.alloc (.cells #[.int .i64 gen, .slice A ps.length c] 46)).alloc (.cells #[.string e0.key, .slice (some ⟨g0, 0, none⟩) e0.val.length c0, .int .i64 (e0.id : Int)] 114)).alloc (.cells #[.int .i64 0, .slice none 0 0] 46)).alloc (.cells #[.int .i64 gen, .slice none 0 0] 46) := ⟨_, rfl⟩
  have hst0 : Adding w (w.heap.size + 1 + 1 + 1) gen [] W0 := by
    rw [hW0]
    refine Adding.start (((((Below.refl _ w).alloc (Nat.le_refl _) _).alloc (by simp) _).alloc (by simp; omega) _).alloc (by simp; omega) _) (by omega) ?_
    have := Blk.new (((w.alloc (.cells #[.int .i64 gen, .slice A ps.length c] 46)).alloc (.cells #[.string e0.key, .slice (some ⟨g0, 0, none⟩) e0.val.length c0, .int .i64 (e0.id : Int)] 114)).alloc (.cells #[.int .i64 0, .slice none 0 0] 46)) 46 #[.int .i64 gen, .slice none 0 0]
    simp only [World.size_alloc] at this
    exact this
  have hst1 : Blk W0 (w.heap.size + 1 + 1) 46 #[.int .i64 0, .slice none 0 0] := by
    rw [hW0]
    have := (Blk.new ((w.alloc (.cells #[.int .i64 gen, .slice A ps.length c] 46)).alloc (.cells #[.string e0.key, .slice (some ⟨g0, 0, none⟩) e0.val.length c0, .int .i64 (e0.id : Int)] 114)) 46 #[.int .i64 0, .slice none 0 0]).alloc (.cells #[.int .i64 gen, .slice none 0 0] 46)
    simp only [World.size_alloc] at this
    exact this
  have hst2 : Blk W0 (w.heap.size + 1) 114 #[.string e0.key, .slice (some ⟨g0, 0, none⟩) e0.val.length c0, .int .i64 (e0.id : Int)] := by
    rw [hW0]
    have := ((Blk.new (w.alloc (.cells #[.int .i64 gen, .slice A ps.length c] 46)) 114 #[.string e0.key, .slice (some ⟨g0, 0, none⟩) e0.val.length c0, .int .i64 (e0.id : Int)]).alloc (.cells #[.int .i64 0, .slice none 0 0] 46)).alloc (.cells #[.int .i64 gen, .slice none 0 0] 46)
    simp only [World.size_alloc] at this
    exact this
  rw [← hW0]
  have HS0 := Lib.hid hst0
  have HS1 := Lib.hid hst1
  have HS2 := Lib.hid hst2
  clear hst0 hst1 hst2 hW0
  go_loopw [6, 15] (fun d x wr => ∃ (j : Nat) (b : Bool) (qs : List (Ent × Value)), j ≤ ps.length ∧ x = .int .i64 j ∧ d = .bool b ∧ Withing (e0, .slice (some ⟨g0, 0, none⟩) e0.val.length c0) ps qs b j ∧ Adding w (w.heap.size + 1 + 1 + 1) gen qs wr ∧ Blk wr (w.heap.size + 1 + 1) 46 #[.int .i64 0, .slice none 0 0] ∧ Blk wr (w.heap.size + 1) 114 #[.string e0.key, .slice (some ⟨g0, 0, none⟩) e0.val.length c0, .int .i64 (e0.id : Int)]) (fun _ x _ => ps.length - (intOf x).toNat)
  case atStart => exact ⟨0, false, [], Nat.zero_le _, rfl, rfl, rfl, HS0.out, HS1.out, HS2.out⟩
  case round =>
    obtain ⟨j, b, qs, hj, rfl, rfl, hW, hA, hR, hZ⟩ := hrel
    have z0 := hZ.cell 0
    have z1 := hZ.cell 1
    have z2 := hZ.cell 2
    have z0 : wr.cell? ⟨w.heap.size + 1, 0, none⟩ = some (.string e0.key) := z0
    have z1 : wr.cell? ⟨w.heap.size + 1, 1, none⟩ = some (.slice (some ⟨g0, 0, none⟩) e0.val.length c0) := z1
    have z2 : wr.cell? ⟨w.heap.size + 1, 2, none⟩ = some (.int .i64 (e0.id : Int)) := z2
    have hM := hA.1
    have HA := Lib.hid hA
    have HR := Lib.hid hR
    have HW := Lib.hid hW
    have hql := hW.len
    obtain ⟨Ao, co, hbo, _⟩ := hA.val
    have HBO := Lib.hid hbo
    have o1 : wr.cell? ⟨w.heap.size + 1 + 1 + 1, 1, none⟩ = some (.slice Ao qs.length co) := hbo.cell 1
    have o1a : ∀ o, (wr.alloc o).cell? ⟨w.heap.size + 1 + 1 + 1, 1, none⟩ = some (.slice Ao qs.length co) := fun o => (hbo.alloc o).cell 1
    have hwz : w.heap.size + 1 + 1 + 1 < wr.heap.size := hbo.lt
    have z0a : ∀ o, (wr.alloc o).cell? ⟨w.heap.size + 1, 0, none⟩ = some (.string e0.key) := fun o => Lib.cell?_alloc_some _ z0
    have z1a : ∀ o, (wr.alloc o).cell? ⟨w.heap.size + 1, 1, none⟩ = some (.slice (some ⟨g0, 0, none⟩) e0.val.length c0) := fun o => Lib.cell?_alloc_some _ z1
    have z2a : ∀ o, (wr.alloc o).cell? ⟨w.heap.size + 1, 2, none⟩ = some (.int .i64 (e0.id : Int)) := fun o => Lib.cell?_alloc_some _ z2
    by_cases hlt : j < ps.length
    · have tk : decide ((j : Int) < (ps.length : Int)) = true := by simp; omega
      obtain ⟨g, rfl, q0, q1, q2⟩ := HROW.out j _ (List.getElem?_eq_getElem hlt)
      obtain ⟨gx, cx, curx, hvx, _⟩ := (HB.out _ (List.getElem_mem hlt)).cells
      rw [hvx] at q1
      have q0 := (hM.cell (World.block_lt_of_cell? w _ q0)).trans q0
      have q1 := (hM.cell (World.block_lt_of_cell? w _ q1)).trans q1
      have q2 := (hM.cell (World.block_lt_of_cell? w _ q2)).trans q2
      have HPJ : Hid (ps[j]? = some ps[j]) := List.getElem?_eq_getElem hlt
      obtain ⟨x, hx⟩ : ∃ x, x = ps[j] := ⟨_, rfl⟩
      rw [← hx] at q0 q1 q2 HPJ hvx
      have HVX := Lib.hid hvx
      have hkle : Op.bytesLess x.1.key.toList e0.key.toList = decide (kb x.1.key < kb e0.key) := less_kb _ _
      have HZ : Hid (Blk wr (w.heap.size + 1) 114 #[.string e0.key, .slice (some ⟨g0, 0, none⟩) e0.val.length c0, .int .i64 (e0.id : Int)]) := hZ
      clear hM hA hR hW hvx hx hbo hZ
      obtain ⟨X, hX⟩ : ∃ X : Obj, X = .cells #[.string x.1.key, .slice (some ⟨gx, 0, none⟩) x.1.val.length cx, .int .i64 (x.1.id : Int)] 114 := ⟨_, rfl⟩
      have HXB : Hid (∀ W : World, Blk (W.alloc X) W.heap.size 114 #[.string x.1.key, .slice (some ⟨gx, 0, none⟩) x.1.val.length cx, .int .i64 (x.1.id : Int)]) := by
        show ∀ W : World, _
        intro W
        rw [hX]
        exact Blk.new W _ _
      rw [hX] at HXB
      clear hX
      have HRW : Hid (∀ Y : Obj, Blk ((wr.alloc (.cells #[.string x.1.key, .slice (some ⟨gx, 0, none⟩) x.1.val.length cx, .int .i64 (x.1.id : Int)] 114)).alloc Y) (w.heap.size + 1 + 1) 46 #[.int .i64 0, .slice none 0 0]) := fun Y => (HR.out.alloc _).alloc Y
      have HZW : Hid (∀ Y : Obj, Blk ((wr.alloc (.cells #[.string x.1.key, .slice (some ⟨gx, 0, none⟩) x.1.val.length cx, .int .i64 (x.1.id : Int)] 114)).alloc Y) (w.heap.size + 1) 114 #[.string e0.key, .slice (some ⟨g0, 0, none⟩) e0.val.length c0, .int .i64 (e0.id : Int)]) := fun Y => (HZ.out.alloc _).alloc Y
      have HXW : Hid (∀ Y : Obj, Blk ((wr.alloc (.cells #[.string x.1.key, .slice (some ⟨gx, 0, none⟩) x.1.val.length cx, .int .i64 (x.1.id : Int)] 114)).alloc Y) wr.heap.size 114 #[.string x.1.key, .slice (some ⟨gx, 0, none⟩) x.1.val.length cx, .int .i64 (x.1.id : Int)]) := fun Y => (HXB.out wr).alloc Y
      clear HXB
      have hx2 : (x.1, x.2) = x := rfl
      have HXE : Hid ((x.1, Value.slice (some ⟨gx, 0, none⟩) x.1.val.length cx) = x) := by show _ = _; rw [← HVX.out]
      clear hx2
      by_cases he : x.1.key = e0.key
      · have HE := Lib.hid he
        have he2 : (x.1.key.toList == e0.key.toList) = true := by rw [keq]; simpa using he
        have he3 : (x.1.key.toList != e0.key.toList) = false := by simp only [bne, he2]; rfl
        have hnl : ¬ kb x.1.key < kb e0.key := by rw [he]; exact List.lt_irrefl _
        have hk2 : Op.bytesLess x.1.key.toList e0.key.toList = false := by rw [hkle]; simpa using hnl
        have HNL := Lib.hid hnl
        clear he hkle hnl
        cases b with
        | true =>
          go_wp2
          go_roundw
          case rel => exact ⟨j + 1, true, _, by omega, by go_num, rfl, (HW.out.done HPJ.out).1 HE.out, HA.out.below ((Below.refl _ wr).alloc (Nat.le_refl _) _), HR.out.alloc _, HZ.out.alloc _⟩
          case measure => simp [intOf]; omega
        | false =>
          go_wp2_with (at_builtin; refine wpList_append_ent rfl _ _ rfl HA.out (((Below.refl _ wr).alloc (Nat.le_refl _) (.cells #[.string x.1.key, .slice (some ⟨gx, 0, none⟩) x.1.val.length cx, .int .i64 (x.1.id : Int)] 114)).alloc (by simp) (.cells #[.string e0.key, .slice (some ⟨g0, 0, none⟩) e0.val.length c0, .int .i64 (e0.id : Int)] 114)) (by omega) rfl HBO.out rfl (e0, .slice (some ⟨g0, 0, none⟩) e0.val.length c0) rfl (by have := Blk.new (wr.alloc (.cells #[.string x.1.key, .slice (some ⟨gx, 0, none⟩) x.1.val.length cx, .int .i64 (x.1.id : Int)] 114)) 114 #[.string e0.key, .slice (some ⟨g0, 0, none⟩) e0.val.length c0, .int .i64 (e0.id : Int)]; rw [World.size_alloc] at this; exact this) rfl ?_; intro A3 c3 w3 hA3 hB3 hc3 hf3 hoth; have B3 := Lib.hid hB3; clear hB3; have R3 := Lib.hid (hoth _ _ _ (HRW.out _) (.inl (by decide))); have Z3 := Lib.hid (hoth _ _ _ (HZW.out _) (.inr (.inl (by omega)))); have X3 := Lib.hid (hoth _ _ _ (HXW.out _) (.inr (.inr (Nat.le_refl _)))); have HA3 := Lib.hid hA3; clear hA3 hoth; have z0s : ∀ u, (w3.setCell ⟨w.heap.size + 1 + 1 + 1, 1, none⟩ u).cell? ⟨w.heap.size + 1, 0, none⟩ = some (.string e0.key) := fun u => (Z3.out.far (p := ⟨w.heap.size + 1 + 1 + 1, 1, none⟩) (by show w.heap.size + 1 ≠ w.heap.size + 1 + 1 + 1; omega) u).cell 0; have y0 : ∀ u, (w3.setCell ⟨w.heap.size + 1 + 1 + 1, 1, none⟩ u).cell? ⟨wr.heap.size, 0, none⟩ = some (.string x.1.key) := fun u => (X3.out.far (p := ⟨w.heap.size + 1 + 1 + 1, 1, none⟩) (by show wr.heap.size ≠ w.heap.size + 1 + 1 + 1; omega) u).cell 0)
          go_roundw
          case rel => exact ⟨j + 1, true, _, by omega, by go_num, rfl, (HW.out.ge HPJ.out HNL.out).1 HE.out, HA3.out, R3.out.far (p := ⟨w.heap.size + 1 + 1 + 1, 1, none⟩) (by show w.heap.size + 1 + 1 ≠ w.heap.size + 1 + 1 + 1; omega) _, Z3.out.far (p := ⟨w.heap.size + 1 + 1 + 1, 1, none⟩) (by show w.heap.size + 1 ≠ w.heap.size + 1 + 1 + 1; omega) _⟩
          case measure => simp [intOf]; omega
      · have HE := Lib.hid he
        have he2 : (x.1.key.toList == e0.key.toList) = false := by rw [keq]; simpa using he
        have he3 : (x.1.key.toList != e0.key.toList) = true := by simp only [bne, he2]; rfl
        clear he
        cases b with
        | true =>
          clear hkle
          go_wp2_with (at_builtin; refine wpList_append_ent rfl _ _ rfl HA.out (((Below.refl _ wr).alloc (Nat.le_refl _) (.cells #[.string x.1.key, .slice (some ⟨gx, 0, none⟩) x.1.val.length cx, .int .i64 (x.1.id : Int)] 114)).alloc (by simp) (.cells #[.string x.1.key, .slice (some ⟨gx, 0, none⟩) x.1.val.length cx, .int .i64 (x.1.id : Int)] 114)) (by omega) rfl HBO.out rfl (x.1, .slice (some ⟨gx, 0, none⟩) x.1.val.length cx) rfl (by have := Blk.new (wr.alloc (.cells #[.string x.1.key, .slice (some ⟨gx, 0, none⟩) x.1.val.length cx, .int .i64 (x.1.id : Int)] 114)) 114 #[.string x.1.key, .slice (some ⟨gx, 0, none⟩) x.1.val.length cx, .int .i64 (x.1.id : Int)]; rw [World.size_alloc] at this; exact this) rfl ?_; intro A3 c3 w3 hA3 hB3 hc3 hf3 hoth; have B3 := Lib.hid hB3; clear hB3; have R3 := Lib.hid (hoth _ _ _ (HRW.out _) (.inl (by decide))); have Z3 := Lib.hid (hoth _ _ _ (HZW.out _) (.inr (.inl (by omega)))); have X3 := Lib.hid (hoth _ _ _ (HXW.out _) (.inr (.inr (Nat.le_refl _)))); have HA3 := Lib.hid hA3; clear hA3 hoth)
          go_roundw
          case rel =>
            have hs := (HW.out.done HPJ.out).2 HE.out
            rw [← HXE.out] at hs
            exact ⟨j + 1, true, _, by omega, by go_num, rfl, hs, HA3.out, R3.out.far (p := ⟨w.heap.size + 1 + 1 + 1, 1, none⟩) (by show w.heap.size + 1 + 1 ≠ w.heap.size + 1 + 1 + 1; omega) _, Z3.out.far (p := ⟨w.heap.size + 1 + 1 + 1, 1, none⟩) (by show w.heap.size + 1 ≠ w.heap.size + 1 + 1 + 1; omega) _⟩
          case measure => simp [intOf]; omega
        | false =>
          by_cases hl : kb x.1.key < kb e0.key
          · have hk2 : Op.bytesLess x.1.key.toList e0.key.toList = true := by rw [hkle]; simpa using hl
            have HL := Lib.hid hl
            clear hl hkle
            go_wp2_with (at_builtin; refine wpList_append_ent rfl _ _ rfl HA.out (((Below.refl _ wr).alloc (Nat.le_refl _) (.cells #[.string x.1.key, .slice (some ⟨gx, 0, none⟩) x.1.val.length cx, .int .i64 (x.1.id : Int)] 114)).alloc (by simp) (.cells #[.string x.1.key, .slice (some ⟨gx, 0, none⟩) x.1.val.length cx, .int .i64 (x.1.id : Int)] 114)) (by omega) rfl HBO.out rfl (x.1, .slice (some ⟨gx, 0, none⟩) x.1.val.length cx) rfl (by have := Blk.new (wr.alloc (.cells #[.string x.1.key, .slice (some ⟨gx, 0, none⟩) x.1.val.length cx, .int .i64 (x.1.id : Int)] 114)) 114 #[.string x.1.key, .slice (some ⟨gx, 0, none⟩) x.1.val.length cx, .int .i64 (x.1.id : Int)]; rw [World.size_alloc] at this; exact this) rfl ?_; intro A3 c3 w3 hA3 hB3 hc3 hf3 hoth; have B3 := Lib.hid hB3; clear hB3; have R3 := Lib.hid (hoth _ _ _ (HRW.out _) (.inl (by decide))); have Z3 := Lib.hid (hoth _ _ _ (HZW.out _) (.inr (.inl (by omega)))); have X3 := Lib.hid (hoth _ _ _ (HXW.out _) (.inr (.inr (Nat.le_refl _)))); have HA3 := Lib.hid hA3; clear hA3 hoth)
            go_roundw
            case rel =>
              have hs := HW.out.lt HPJ.out HL.out
              rw [← HXE.out] at hs
              exact ⟨j + 1, false, _, by omega, by go_num, rfl, hs, HA3.out, R3.out.far (p := ⟨w.heap.size + 1 + 1 + 1, 1, none⟩) (by show w.heap.size + 1 + 1 ≠ w.heap.size + 1 + 1 + 1; omega) _, Z3.out.far (p := ⟨w.heap.size + 1 + 1 + 1, 1, none⟩) (by show w.heap.size + 1 ≠ w.heap.size + 1 + 1 + 1; omega) _⟩
            case measure => simp [intOf]; omega
          · have hk2 : Op.bytesLess x.1.key.toList e0.key.toList = false := by rw [hkle]; simpa using hl
            have HL := Lib.hid hl
            clear hl hkle
            go_wp2_with (first
              | (have HA3' := HA3; at_builtin; refine wpList_append_ent rfl _ _ rfl HA3.out ((Below.refl _ _).alloc (Nat.le_refl _) (.cells #[.string x.1.key, .slice (some ⟨gx, 0, none⟩) x.1.val.length cx, .int .i64 (x.1.id : Int)] 114)) (by simp; omega) (by simp) B3.out rfl (x.1, .slice (some ⟨gx, 0, none⟩) x.1.val.length cx) rfl (new_set w3 _ _ _ _) rfl ?_; intro A4 c4 w4 hA4 hB4 hc4 hf4 hoth4; clear hB4; have R4 := Lib.hid (hoth4 _ _ _ ((R3.out.far (p := ⟨w.heap.size + 1 + 1 + 1, 1, none⟩) (by show w.heap.size + 1 + 1 ≠ w.heap.size + 1 + 1 + 1; omega) _).alloc _) (.inl (by decide))); have Z4 := Lib.hid (hoth4 _ _ _ ((Z3.out.far (p := ⟨w.heap.size + 1 + 1 + 1, 1, none⟩) (by show w.heap.size + 1 ≠ w.heap.size + 1 + 1 + 1; omega) _).alloc _) (.inr (.inl (by omega)))); have HA4 := Lib.hid hA4; clear hA4 hoth4)
              | (at_builtin; refine wpList_append_ent rfl _ _ rfl HA.out (((Below.refl _ wr).alloc (Nat.le_refl _) (.cells #[.string x.1.key, .slice (some ⟨gx, 0, none⟩) x.1.val.length cx, .int .i64 (x.1.id : Int)] 114)).alloc (by simp) (.cells #[.string e0.key, .slice (some ⟨g0, 0, none⟩) e0.val.length c0, .int .i64 (e0.id : Int)] 114)) (by omega) rfl HBO.out rfl (e0, .slice (some ⟨g0, 0, none⟩) e0.val.length c0) rfl (by have := Blk.new (wr.alloc (.cells #[.string x.1.key, .slice (some ⟨gx, 0, none⟩) x.1.val.length cx, .int .i64 (x.1.id : Int)] 114)) 114 #[.string e0.key, .slice (some ⟨g0, 0, none⟩) e0.val.length c0, .int .i64 (e0.id : Int)]; rw [World.size_alloc] at this; exact this) rfl ?_; intro A3 c3 w3 hA3 hB3 hc3 hf3 hoth; have B3 := Lib.hid hB3; clear hB3; have R3 := Lib.hid (hoth _ _ _ (HRW.out _) (.inl (by decide))); have Z3 := Lib.hid (hoth _ _ _ (HZW.out _) (.inr (.inl (by omega)))); have X3 := Lib.hid (hoth _ _ _ (HXW.out _) (.inr (.inr (Nat.le_refl _)))); have HA3 := Lib.hid hA3; clear hA3 hoth; have z0s : ∀ u, (w3.setCell ⟨w.heap.size + 1 + 1 + 1, 1, none⟩ u).cell? ⟨w.heap.size + 1, 0, none⟩ = some (.string e0.key) := fun u => (Z3.out.far (p := ⟨w.heap.size + 1 + 1 + 1, 1, none⟩) (by show w.heap.size + 1 ≠ w.heap.size + 1 + 1 + 1; omega) u).cell 0; have y0 : ∀ u, (w3.setCell ⟨w.heap.size + 1 + 1 + 1, 1, none⟩ u).cell? ⟨wr.heap.size, 0, none⟩ = some (.string x.1.key) := fun u => (X3.out.far (p := ⟨w.heap.size + 1 + 1 + 1, 1, none⟩) (by show wr.heap.size ≠ w.heap.size + 1 + 1 + 1; omega) u).cell 0; have y1 : ∀ u, (w3.setCell ⟨w.heap.size + 1 + 1 + 1, 1, none⟩ u).cell? ⟨wr.heap.size, 1, none⟩ = some (.slice (some ⟨gx, 0, none⟩) x.1.val.length cx) := fun u => (X3.out.far (p := ⟨w.heap.size + 1 + 1 + 1, 1, none⟩) (by show wr.heap.size ≠ w.heap.size + 1 + 1 + 1; omega) u).cell 1; have y2 : ∀ u, (w3.setCell ⟨w.heap.size + 1 + 1 + 1, 1, none⟩ u).cell? ⟨wr.heap.size, 2, none⟩ = some (.int .i64 (x.1.id : Int)) := fun u => (X3.out.far (p := ⟨w.heap.size + 1 + 1 + 1, 1, none⟩) (by show wr.heap.size ≠ w.heap.size + 1 + 1 + 1; omega) u).cell 2))
            go_roundw
            case rel =>
              have hs := (HW.out.ge HPJ.out HL.out).2 HE.out
              rw [← HXE.out] at hs
              exact ⟨j + 1, true, _, by omega, by go_num, rfl, hs, HA4.out, R4.out.far (p := ⟨w.heap.size + 1 + 1 + 1, 1, none⟩) (by show w.heap.size + 1 + 1 ≠ w.heap.size + 1 + 1 + 1; omega) _, Z4.out.far (p := ⟨w.heap.size + 1 + 1 + 1, 1, none⟩) (by show w.heap.size + 1 ≠ w.heap.size + 1 + 1 + 1; omega) _⟩
            case measure => simp [intOf]; omega
    · obtain rfl : j = ps.length := by omega
      have tk : decide ((ps.length : Int) < ps.length) = false := by simp
      have hend := hW.end_
      have hmem : ∀ q ∈ withP (e0, .slice (some ⟨g0, 0, none⟩) e0.val.length c0) ps, BytesAt P w q.2 q.1.val := fun q hq => by
        rcases withP_mem hq with rfl | hq
        · exact HB0.out
        · exact HB.out q hq
      have HMEM := Lib.hid hmem
      have HEND := Lib.hid hend
      have HZ := Lib.hid hZ
      clear hM hA hR hW hend hmem hZ hbo
      cases b with
      | true =>
        have HA2 : Hid (Adding w (w.heap.size + 1 + 1 + 1) gen (withP (e0, .slice (some ⟨g0, 0, none⟩) e0.val.length c0) ps) wr) := by
          have := HEND.out
          rw [if_pos rfl] at this
          show Adding _ _ _ _ _
          rw [this]
          exact HA.out
        obtain ⟨v, hbo, hE⟩ := HA2.out.ents (P := P) HMEM.out
        rw [withP_ents] at hE
        obtain ⟨Ae, ce, rfl⟩ := hE.slice
        have HE := Lib.hid hE
        have c0' : wr.cell? ⟨w.heap.size + 1 + 1 + 1, 0, none⟩ = some (.int .i64 gen) := hbo.cell 0
        have c1' : wr.cell? ⟨w.heap.size + 1 + 1 + 1, 1, none⟩ = some (.slice Ae (withE e0 (ps.map (·.1))).length ce) := hbo.cell 1
        have r0 := HR.out.cell 0
        have r1 := HR.out.cell 1
        have f0 := HR.out.frozen 0
        have f1 := HR.out.frozen 1
        clear hbo hE o1
        go_wp2
        refine bodyPost_ret (v := .agg #[.int .i64 gen, .slice Ae (withE e0 (ps.map (·.1))).length ce]) (by simp [results, Tryz.results104, go_sem, r0, r1]) rfl ⟨Ae, ce, rfl, ?_, (HA.out.1.setCell (p := ⟨w.heap.size + 1 + 1, 0, none⟩) (by show w.heap.size ≤ w.heap.size + 1 + 1; omega) _).setCell (p := ⟨w.heap.size + 1 + 1, 1, none⟩) (by show w.heap.size ≤ w.heap.size + 1 + 1; omega) _⟩
        exact HE.out.keeps (F := (· = w.heap.size + 1 + 1)) ((Keeps.set1 wr _ 0 _).trans (Keeps.set1 _ _ 1 _) (fun _ _ h => h)) (fun g t cs e hb => by
          subst e
          have := (hb.det HR.out).2
          subst this
          exact ⟨by decide, fun _ => by decide⟩)
      | false =>
        go_wp2_with (at_builtin; refine wpList_append_ent rfl _ _ rfl HA.out ((Below.refl _ wr).alloc (Nat.le_refl _) (.cells #[.string e0.key, .slice (some ⟨g0, 0, none⟩) e0.val.length c0, .int .i64 (e0.id : Int)] 114)) (by omega) rfl HBO.out rfl (e0, .slice (some ⟨g0, 0, none⟩) e0.val.length c0) rfl (Blk.new _ _ _) rfl ?_; intro A3 c3 w3 hA3 hB3 hc3 hf3 hoth; have R3 := Lib.hid (hoth _ _ _ (HR.out.alloc _) (.inl (by decide))); have HA3 := Lib.hid hA3; have HRS : Hid (Blk (w3.setCell ⟨w.heap.size + 1 + 1 + 1, 1, none⟩ (.slice A3 (qs.length + 1) c3)) (w.heap.size + 1 + 1) 46 #[.int .i64 0, .slice none 0 0]) := R3.out.far (p := ⟨w.heap.size + 1 + 1 + 1, 1, none⟩) (by show w.heap.size + 1 + 1 ≠ w.heap.size + 1 + 1 + 1; omega) _; have HB3 := Lib.hid hB3; clear hA3 hB3 hoth; have r0 := HRS.out.cell 0; have r1 := HRS.out.cell 1; have f0 := HRS.out.frozen 0; have f1 := HRS.out.frozen 1; have b0 := HB3.out.cell 0; have b1 := HB3.out.cell 1)
        have HA2 : Hid (Adding w (w.heap.size + 1 + 1 + 1) gen (withP (e0, .slice (some ⟨g0, 0, none⟩) e0.val.length c0) ps) (w3.setCell ⟨w.heap.size + 1 + 1 + 1, 1, none⟩ (.slice A3 (qs.length + 1) c3))) := by
          have := HEND.out
          rw [if_neg (by simp)] at this
          show Adding _ _ _ _ _
          rw [this]
          exact HA3.out
        obtain ⟨v, hbo, hE⟩ := HA2.out.ents (P := P) HMEM.out
        have hv : v = .slice A3 (qs.length + 1) c3 := by
          have := congrArg (fun a : Array Value => a[1]?) (hbo.det HB3.out).1
          simpa using this
        rw [hv, withP_ents] at hE
        have hle : (withE e0 (ps.map (·.1))).length = qs.length + 1 := by
          have := HEND.out
          rw [if_neg (by simp)] at this
          rw [← withP_ents (e0, .slice (some ⟨g0, 0, none⟩) e0.val.length c0), this]
          simp
        refine bodyPost_ret (v := .agg #[.int .i64 gen, .slice A3 (qs.length + 1) c3]) (by simp [results, Tryz.results104, go_sem, r0, r1]) rfl ⟨A3, c3, by rw [hle], ?_, (HA3.out.1.setCell (p := ⟨w.heap.size + 1 + 1, 0, none⟩) (by show w.heap.size ≤ w.heap.size + 1 + 1; omega) _).setCell (p := ⟨w.heap.size + 1 + 1, 1, none⟩) (by show w.heap.size ≤ w.heap.size + 1 + 1; omega) _⟩
        rw [hle]
        exact hE.keeps (F := (· = w.heap.size + 1 + 1)) ((Keeps.set1 _ _ 0 _).trans (Keeps.set1 _ _ 1 _) (fun _ _ h => h)) (fun g t cs e hb => by
          subst e
          have := (hb.det HRS.out).2
          subst this
          exact ⟨by decide, fun _ => by decide⟩)

end Go.Proofs.YtbgiklkpinflaaaGreat
