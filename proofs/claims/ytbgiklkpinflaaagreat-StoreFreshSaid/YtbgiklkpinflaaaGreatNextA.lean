/- take (the closure of next). next: plain facts, and what the walk needs. next. -/
import Derived.Test.YtbgiklkpinflaaaGreatGetA
import Derived.IntWalk

namespace Go.Proofs.YtbgiklkpinflaaaGreat
open Go.RowKit Go.Shelf Go.Maps
attribute [local go_sem ↓] Go.wp_at_zero Go.wp_at_succ

/-- A slice of numbers, wherever it begins. -/
def FreeAt (w : World) (v : Value) (l : List Nat) : Prop :=
  ∃ A c, v = .slice A l.length c ∧ l.length ≤ c ∧ c ≤ maxLen ∧ ((A = none ∧ c = 0) ∨ ∃ g o t cur, A = some ⟨g, o, none⟩ ∧ Blk w g t cur ∧ t = 3 ∧ Cells w g o (l.map Go.Proofs.YtbgiklkpinflaaaGreat.nv))
theorem FreeAt.keeps {F : Nat → Prop} {w w' : World} {v : Value} {l : List Nat} (h : FreeAt w v l) (k : Keeps F w w') (hF : ∀ g cs, F g → Blk w g 3 cs → False) : FreeAt w' v l := by
  obtain ⟨A, c, hv, h1, h2, h3⟩ := h
  refine ⟨A, c, hv, h1, h2, h3.imp id ?_⟩
  rintro ⟨g, o, t, cur, rfl, hb, rfl, hc⟩
  have hn : ¬ F g := fun hg => hF g cur hg hb
  exact ⟨g, o, _, cur, rfl, hb.keeps k hn, rfl, hc.keeps k hn⟩
theorem FreeAt.of_own {w : World} {base n : Nat} {v : Value} {l : List Nat} (h : w.ownsRow base 3 1 v n (l.map Go.Proofs.YtbgiklkpinflaaaGreat.nv)) : FreeAt w v l := by
  obtain ⟨h1, h2⟩ := h
  have hl : l.length = n := by simpa using h1
  subst hl
  rcases h2 with ⟨rfl, h0⟩ | ⟨g, cap, cur, rfl, hb, hg, hnc, hcm, hcs, ht⟩
  · exact ⟨none, 0, by rw [h0], by omega, Nat.zero_le _, .inl ⟨rfl, rfl⟩⟩
  · exact ⟨_, cap, rfl, hnc, hcm, .inr ⟨g, 0, _, cur, rfl, hg, rfl, take_cells (t := 3) hg (by simpa using ht)⟩⟩
theorem Cells.drop_ {w : World} {g o n : Nat} {l : List Nat} (h : Cells w g o (l.map Go.Proofs.YtbgiklkpinflaaaGreat.nv)) : Cells w g (o + n) ((l.drop n).map Go.Proofs.YtbgiklkpinflaaaGreat.nv) := by
  intro j u hj
  rw [List.map_drop, List.getElem?_drop] at hj
  have := h _ _ hj
  rwa [← Nat.add_assoc] at this
theorem Cells.take_ {w : World} {g o n : Nat} {l : List Nat} (h : Cells w g o (l.map Go.Proofs.YtbgiklkpinflaaaGreat.nv)) : Cells w g o ((l.take n).map Go.Proofs.YtbgiklkpinflaaaGreat.nv) := by
  intro j u hj
  rw [List.map_take, List.getElem?_take] at hj
  split at hj
  · exact h _ _ hj
  · cases hj
theorem oneCell_nv (l : List Nat) : ∀ u ∈ l.map Go.Proofs.YtbgiklkpinflaaaGreat.nv, u.oneCell' = true := by
  intro u hu
  obtain ⟨b, _, rfl⟩ := List.mem_map.1 hu
  rfl

set_option maxHeartbeats 2000000 in
theorem clone_ints (g o n c : Nat) (l : List Nat) (w : World) (hl : n = l.length) (hn : l.length ≤ 1000000) (hc : Cells w g o (l.map Go.Proofs.YtbgiklkpinflaaaGreat.nv)) :
    Calls Tryz.prog 110 #[.slice (some ⟨g, o, none⟩) n c] w fun e w' => ∃ v, e = .returned v ∧ NumsAt w' v l ∧ Below w.heap.size w w' := by
  subst hl
  obtain ⟨i0, hi, hz0, hz1, hz2⟩ := info_parts Tryz.infoInt
  have q : ∀ (w : World) (a : Option Addr) (n c n' c' : Nat), (binOp .eql 117 (.slice a n c) (.slice none n' c')).run Tryz.prog w = .ok (.bool a.isNone) w := fun w a n c n' c' => Lib.run_eql_slice_nil w _ _ a n c n' c' Tryz.underlying117
  have A : Hid (Cells w g o (l.map Go.Proofs.YtbgiklkpinflaaaGreat.nv)) := hc
  clear hc
  go_enter Tryz.func110, Tryz.ntmps110
  go_wp2_with (at_builtin; refine wpList_append_own _ rfl _ _ 117 rfl w.heap.size 3 i0 (.int .i64 0) 1 8 Tryz.underlying117 hi hz0 hz1 hz2 rfl (by decide) _ _ _ rfl (World.ownsRow_made w #[] 0 (Nat.le_refl _) (Nat.zero_le _) (by simp)) ⟨g, o, none⟩ l.length c (l.map Go.Proofs.YtbgiklkpinflaaaGreat.nv) rfl ?qc1 ?qc2 ?qc3 ?qc4 ?qc5 ?qc6 ?_)
  case qc1 => simp
  case qc2 =>
    intro j u hj
    rw [Addr.add_lit]
    exact Lib.cell?_alloc_some _ (A.out j u hj)
  case qc3 => exact oneCell_nv l
  case qc4 => unfold maxLen; omega
  case qc5 => omega
  case qc6 => simp
  intro v' w1 hown hgrow hnil
  go_wp2
  go_ret
  have hown' : w1.ownsRow w.heap.size 3 1 v' l.length (l.map Go.Proofs.YtbgiklkpinflaaaGreat.nv) := by simpa using hown
  exact ⟨v', rfl, NumsAt.of_own hown', ((Below.refl _ w).alloc (Nat.le_refl _) _).grown hgrow (by simp) (by intro k hk; simp [Value.ownBlock] at hk; omega)⟩

set_option maxHeartbeats 2000000 in
theorem clone_ints_nil (c : Nat) (w : World) :
    Calls Tryz.prog 110 #[.slice none 0 c] w fun e w' => e = .returned (.slice none 0 0) ∧ w = w' := by
  have q : ∀ (w : World) (a : Option Addr) (n c n' c' : Nat), (binOp .eql 117 (.slice a n c) (.slice none n' c')).run Tryz.prog w = .ok (.bool a.isNone) w := fun w a n c n' c' => Lib.run_eql_slice_nil w _ _ a n c n' c' Tryz.underlying117
  go_enter Tryz.func110, Tryz.ntmps110
  go_wp2
  go_ret
  exact ⟨rfl, rfl⟩

/-- The box of the free blocks. -/
theorem take_no {w : World} {fb n : Nat} {fv : Value} {l : List Nat} (hb : Blk w fb 117 #[fv]) (hf : FreeAt w fv l) (hn : l.length < n) :
    Calls Tryz.prog 109 #[.int .i64 (n : Int), .pointer (some ⟨fb, 0, none⟩)] w fun e w' => e = .returned (.tuple #[.slice none 0 0, .bool false]) ∧ w = w' := by
  obtain ⟨A, c, rfl, h1, h2, h3⟩ := hf
  have c0 : w.cell? ⟨fb, 0, none⟩ = some (.slice A l.length c) := hb.cell 0
  clear h3
  have hd : decide ((l.length : Int) < (n : Int)) = true := by simp; omega
  go_enter Tryz.func109, Tryz.ntmps109
  go_wp2
  go_ret2
  exact ⟨rfl, rfl⟩

def TakePost (w : World) (fb n : Nat) (l : List Nat) (e : Ending) (w' : World) : Prop :=
  ∃ v fv', e = .returned (.tuple #[v, .bool true]) ∧ NumsAt w' v (l.take n) ∧ Blk w' fb 117 #[fv'] ∧ FreeAt w' fv' (l.drop n) ∧ Keeps (· = fb) w w'

theorem take_end {w w2 : World} {fb n : Nat} {fv fv' v : Value} {l : List Nat} (hb : Blk w fb 117 #[fv]) (hb2 : Below w.heap.size w w2) (hv : NumsAt w2 v (l.take n)) (hf : FreeAt w fv' (l.drop n)) :
    TakePost w fb n l (.returned (.tuple #[v, .bool true])) (w2.setCell ⟨fb, 0, none⟩ fv') := by
  have hb2' := Blk.below hb hb2 hb.lt
  have k := Keeps.set1 w2 fb 0 fv'
  have hU : ∀ g cs, g = fb → Blk w2 g 3 cs → False := fun g cs e hk => by subst e; exact hk.ne_ hb2' (by decide) rfl
  exact ⟨v, fv', rfl, hv.keeps k hU, hb2'.set_ 0 _, (hf.keeps (Keeps.of_below (F := fun _ => False) hb2) (fun _ _ h => h.elim)).keeps k hU, (Keeps.of_below (F := (· = fb)) hb2).trans k (fun _ _ h => h)⟩

set_option maxRecDepth 100000 in
set_option maxHeartbeats 4000000 in
theorem take_yes {w : World} {fb n : Nat} {fv : Value} {l : List Nat} (hb : Blk w fb 117 #[fv]) (hf : FreeAt w fv l) (hn : n ≤ l.length) (hl : l.length ≤ 1000000) :
    Calls Tryz.prog 109 #[.int .i64 (n : Int), .pointer (some ⟨fb, 0, none⟩)] w (TakePost w fb n l) := by
  obtain ⟨A, c, rfl, h1, h2, h3⟩ := hf
  have c0 : w.cell? ⟨fb, 0, none⟩ = some (.slice A l.length c) := hb.cell 0
  have f0 := hb.frozen 0
  have hd : decide ((l.length : Int) < (n : Int)) = false := by simp; omega
  have HB := Lib.hid hb
  rcases h3 with ⟨rfl, rfl⟩ | ⟨g, o, t, cur, rfl, hbg, rfl, hc⟩
  · have hl0 : l = [] := List.eq_nil_of_length_eq_zero (by omega)
    subst hl0
    have hn0 : n = 0 := by simpa using hn
    subst hn0
    clear hb hn hl h1 h2
    go_enter Tryz.func109, Tryz.ntmps109
    go_wp2_with (go_at_call 110; refine (clone_ints_nil _ _).mono ?_; rintro e w' ⟨rfl, rfl⟩)
    go_ret2
    exact ⟨_, _, rfl, NumsAt.nil _, HB.out.set_ 0 _, ⟨none, 0, rfl, Nat.le_refl _, Nat.zero_le _, .inl ⟨rfl, rfl⟩⟩, Keeps.set1 w fb 0 _⟩
  · have HC := Lib.hid hc
    have HBG := Lib.hid hbg
    have htl : (l.take n).length = n := by rw [List.length_take]; omega
    have HTL := Lib.hid htl
    clear hc hbg htl
    obtain ⟨ll, hll⟩ : ∃ ll, ll = l.length := ⟨_, rfl⟩
    rw [← hll] at hn hl h1 hd c0 hb HB
    have HLL := Lib.hid hll
    clear hll hb
    by_cases hnc : n = c
    · subst hnc
      have hln : ll = n := by omega
      subst hln
      go_enter Tryz.func109, Tryz.ntmps109
      go_wp2_with (go_at_call 110; refine (clone_ints g o _ _ (l.take ll) _ HTL.out.symm ?_ HC.out.take_).mono ?_; (rw [HTL.out]; omega); rintro e w2 ⟨v, rfl, hv, hb2⟩; have hb2' := Blk.below HB.out hb2 (Blk.lt HB.out); have c02 : w2.cell? ⟨fb, 0, none⟩ = _ := hb2'.cell 0; have f02 := hb2'.frozen 0)
      go_ret2
      exact take_end HB.out hb2 hv ⟨_, 0, by rw [List.length_drop, ← HLL.out, Nat.sub_self], by rw [List.length_drop, ← HLL.out, Nat.sub_self]; exact Nat.le_refl _, Nat.zero_le _, .inr ⟨g, o, _, cur, rfl, HBG.out, rfl, by rw [List.drop_of_length_le (by rw [← HLL.out]; exact Nat.le_refl _)]; exact Cells.nil_⟩⟩
    · have hcn : ¬ c = n := fun e => hnc e.symm
      go_enter Tryz.func109, Tryz.ntmps109
      go_wp2_with (go_at_call 110; refine (clone_ints g o _ _ (l.take n) _ HTL.out.symm ?_ HC.out.take_).mono ?_; (rw [HTL.out]; omega); rintro e w2 ⟨v, rfl, hv, hb2⟩; have hb2' := Blk.below HB.out hb2 (Blk.lt HB.out); have c02 : w2.cell? ⟨fb, 0, none⟩ = _ := hb2'.cell 0; have f02 := hb2'.frozen 0)
      go_ret2
      exact take_end HB.out hb2 hv ⟨_, c - n, by rw [List.length_drop, ← HLL.out], by rw [List.length_drop, ← HLL.out]; omega, by omega, .inr ⟨g, o + n, _, cur, rfl, HBG.out, rfl, HC.out.drop_⟩⟩

end Go.Proofs.YtbgiklkpinflaaaGreat

namespace Go.Proofs.YtbgiklkpinflaaaGreat
open Go.RowKit Go.Shelf Go.Maps

def need (n : Nat) : Nat := (n + 239) / 240
abbrev Acc := List (List UInt8 × Place) × List Nat
/-- A note takes its blocks. -/
def takeStep (acc : Acc) (x : List UInt8 × List UInt8) : Option Acc :=
  if need x.2.length ≤ acc.2.length then some (mput acc.1 x.1 ⟨x.2.length, crc x.2, acc.2.take (need x.2.length)⟩, acc.2.drop (need x.2.length)) else none
def takeAll (ns : List (List UInt8 × List UInt8)) (acc : Acc) : Option Acc := ns.foldlM takeStep acc
theorem takeAll_take (ns : List (List UInt8 × List UInt8)) (acc : Acc) {k : Nat} (h : k < ns.length) : takeAll (ns.take (k + 1)) acc = (takeAll (ns.take k) acc).bind fun a => takeStep a ns[k] := by
  unfold takeAll
  rw [List.take_succ_eq_append_getElem h, List.foldlM_append]
  show ((ns.take k).foldlM takeStep acc).bind (fun a => [ns[k]].foldlM takeStep a) = _
  congr 1
  funext a
  simp [List.foldlM]
theorem takeAll_none {ns : List (List UInt8 × List UInt8)} {acc : Acc} {k : Nat} (h : takeAll (ns.take k) acc = none) : takeAll ns acc = none := by
  have e : ns = ns.take k ++ ns.drop k := (List.take_append_drop k ns).symm
  unfold takeAll at h ⊢
  rw [e, List.foldlM_append, h]
  rfl
/-- The places that are left where keys are gone. -/
def lessGone {α β : Type} (ps : List (List UInt8 × α)) (gs : List (List UInt8 × β)) : List (List UInt8 × α) := ps.filter fun x => !(gs.any fun y => y.1 == x.1)
def St.next (st : St) (ns : List (List UInt8 × List UInt8)) (gs : List (List UInt8 × Unit)) (fr : List Nat) : Option St :=
  (takeAll ns (lessGone st.places gs, fr)).bind fun a =>
    if max 1 (need (writtenOf a.1).length) ≤ a.2.length then some ⟨st.gen + 1, a.1, a.2.take (max 1 (need (writtenOf a.1).length))⟩ else none

/-- Notes in memory: their values are not nil. -/
def NotesW (w : World) (nb : Nat) (ns : List (List UInt8 × List UInt8)) : Prop :=
  ∃ l : List (List UInt8 × (Value × List UInt8)), MapAt w nb (mmap (fun x : Value × List UInt8 => x.1) l) ∧ ns = mmap (fun x : Value × List UInt8 => x.2) l ∧ ∀ x ∈ l, BytesAt (fun _ => True) w x.2.1 x.2.2
theorem NotesW.keeps {F : Nat → Prop} {w w' : World} {nb : Nat} {ns : List (List UInt8 × List UInt8)} (h : NotesW w nb ns) (k : Keeps F w w') (hF : ∀ g cs, F g → Blk w g 5 cs → False) (hn : ¬ F nb) : NotesW w' nb ns := by
  obtain ⟨l, h1, h2, h3⟩ := h
  exact ⟨l, h1.keeps k hn, h2, fun x hx => (h3 x hx).keeps k fun g cs hg _ hb => hF g cs hg hb⟩
theorem NotesW.below {w w' : World} {nb : Nat} {ns : List (List UInt8 × List UInt8)} (h : NotesW w nb ns) (hb : Below w.heap.size w w') : NotesW w' nb ns := h.keeps (Keeps.of_below (F := fun _ => False) hb) (fun _ _ h => h.elim) id

theorem clone_places {w : World} {mb : Nat} {M : List (List UInt8 × Value)} (h : MapAt w mb M) :
    Calls Tryz.prog 108 #[.map (some mb)] w fun e w' => e = .returned (.map (some w.heap.size)) ∧ MapAt w' w.heap.size M ∧ Below w.heap.size w w' :=
  (AnyW.maps_Clone_owns Tryz.cloneM108 9 rv mb M.length (mapD M) w h).mono fun _ _ ⟨h1, h2, _, h4⟩ => ⟨h1, h2, h4⟩

theorem updP_run {w : World} {b : Nat} {M : List (List UInt8 × Value)} (hM : MapAt w b M) (hn : M.length < 100000) (s : ByteArray) (hs : s.size ≤ maxLen) (v : Value) :
    ∃ w', (Instr.mapUpdate 131 (.map (some b)) (.string s) v).run Tryz.prog w = .ok () w' ∧ MapAt w' b (mput M s.data.toList v) ∧ w.grownBy w' (some b) := by
  obtain ⟨w', hrun, r1, r2⟩ := World.ownsMap.update (H := Value) hM Tryz.lawStr Tryz.underlying131 (by unfold maxLen; omega) (key_of s hs) (R := rv) (val := v) (d := .held v) (ps := []) rfl
  rw [mapD_put] at r1
  exact ⟨w', hrun, MapAt.fit r1, r2⟩

theorem mdel_filter {α : Type} (ps : List (List UInt8 × α)) (f : List UInt8 × α → Bool) (k : List UInt8) : mdel (ps.filter f) k = ps.filter fun x => f x && !(x.1 == k) := by
  unfold mdel
  rw [List.filter_filter]
  congr 1
  funext p
  rw [Bool.and_comm]
/-- The copy with some of the keys struck. -/
def struck (M Mg rem : List (List UInt8 × Value)) : List (List UInt8 × Value) := M.filter fun x => !((Mg.any fun y => y.1 == x.1) && !(rem.any fun y => y.1 == x.1))
theorem struck_start (M Mg : List (List UInt8 × Value)) : struck M Mg Mg = M := by
  unfold struck
  rw [List.filter_eq_self]
  intro x _
  cases (Mg.any fun y => y.1 == x.1) <;> rfl
theorem struck_end (M Mg : List (List UInt8 × Value)) : struck M Mg [] = lessGone M Mg := by
  unfold struck lessGone
  congr 1
  funext x
  simp
theorem struck_step {M Mg rem : List (List UInt8 × Value)} {k : List UInt8} {v : Value} (h : (k, v) ∈ rem) (hsub : ∀ y ∈ rem, y ∈ Mg) : mdel (struck M Mg rem) k = struck M Mg (mdel rem k) := by
  unfold struck
  rw [mdel_filter]
  congr 1
  funext x
  rw [Bool.eq_iff_iff]
  simp only [Bool.and_eq_true, Bool.not_eq_true', Bool.and_eq_false_iff, Bool.not_eq_false', List.any_eq_true, List.any_eq_false]
  constructor
  · rintro ⟨h1, h2⟩
    have hx : ¬ x.1 = k := by simpa using h2
    rcases h1 with h1 | ⟨y, hy, e⟩
    · exact .inl h1
    · have e' : y.1 = x.1 := by simpa using e
      exact .inr ⟨y, List.mem_filter.2 ⟨hy, by rw [e']; simpa using hx⟩, e⟩
  · rintro (h1 | ⟨y, hy, e⟩)
    · have h2 := h1 (k, v) (hsub _ h)
      exact ⟨.inl h1, beq_eq_false_iff_ne.2 fun e => h2 (by rw [e]; exact beq_self_eq_true _)⟩
    · have e' : y.1 = x.1 := by simpa using e
      have h3 := (mdel_mem hy)
      exact ⟨.inr ⟨y, h3.1, e⟩, by have := h3.2; rw [e'] at this; simpa using this⟩

end Go.Proofs.YtbgiklkpinflaaaGreat

namespace Go.Proofs.YtbgiklkpinflaaaGreat
open Go.RowKit Go.Shelf Go.Maps
attribute [local go_sem ↓] Go.wp_at_zero Go.wp_at_succ

def NextPost (w : World) (R : Option St) (e : Ending) (w' : World) : Prop :=
  Below w.heap.size w w' ∧
  ((R = none ∧ ∃ v, e = .returned (.tuple #[v, .bool false])) ∨
   (∃ st' a mb, R = some st' ∧ e = .returned (.tuple #[.pointer (some ⟨a, 0, none⟩), .bool true]) ∧ StateAt w' a mb st' ∧ w.heap.size ≤ a ∧ w.heap.size ≤ mb))

theorem below_keeps2 {w w2 wr : World} {i j : Nat} (hB : Below w.heap.size w w2) (hk : Keeps (fun k => k = i ∨ k = j) w2 wr) (hi : w.heap.size ≤ i) (hj : w.heap.size ≤ j) : Below w.heap.size w wr := by
  have k : Keeps (fun _ => False) w wr := ((Keeps.of_below (F := fun _ => False) hB).trans hk (fun x hx h => by rcases h with h | h <;> omega))
  exact k.below

theorem strike_round {w4 wr w5 w6 : World} {gb nmb r : Nat} {M Mg rem : List (List UInt8 × Value)} {k : List UInt8} {v : Value} (hrn : nmb < r) (hgn : gb ≠ nmb) (hr5 : RangeAt w5 gb r Mg (mdel rem k)) (hM6 : MapAt w6 nmb (mdel (struck M Mg rem) k)) (hg6 : w5.grownBy w6 (some nmb)) (hg5 : wr.grownBy w5 (some r))
    (hk : Keeps (fun i => i = nmb ∨ i = r) w4 wr) (hsr : Srt rem) (hsub : ∀ y ∈ rem, y ∈ Mg) (hmem : (k, v) ∈ rem) (hlt : w5.rangeLeft gb r < wr.rangeLeft gb r) :
    (∃ rem', RangeAt w6 gb r Mg rem' ∧ MapAt w6 nmb (struck M Mg rem') ∧ Keeps (fun i => i = nmb ∨ i = r) w4 w6 ∧ Srt rem' ∧ (∀ y ∈ rem', y ∈ Mg)) ∧ w6.rangeLeft gb r < wr.rangeLeft gb r := by
  have k6 : Keeps (· = nmb) w5 w6 := Keeps.of_grown hg6 (fun g h => by cases h; rfl)
  obtain ⟨h1, h2⟩ := hr5.keeps k6 hgn (by omega)
  refine ⟨⟨_, h1, by rw [← struck_step hmem hsub]; exact hM6, ?_, hsr.filter_ _, fun y hy => hsub y (mdel_mem hy).1⟩, by rw [h2]; exact hlt⟩
  exact (hk.grown hg5 (fun g h _ => by cases h; exact .inr rfl)).grown hg6 (fun g h _ => by cases h; exact .inl rfl)

theorem lessGone_map {α β γ δ : Type} (f : α → γ) (g : β → δ) (l : List (List UInt8 × α)) (gs : List (List UInt8 × β)) : lessGone (mmap f l) (mmap g gs) = mmap f (lessGone l gs) := by
  unfold lessGone mmap
  rw [List.filter_map]
  congr 2
  funext x
  simp [List.any_map, Function.comp_def]
theorem lessGone_few {ps : List (List UInt8 × Place)} {gs : List (List UInt8 × Unit)} (h : ps.length ≤ 512) : (lessGone ps gs).length ≤ 512 + 0 := Nat.le_trans (List.length_filter_le _ _) h
/-- k of the notes have taken their blocks. -/
def Nexting (w7 : World) (fb nmb : Nat) (ns : List (List UInt8 × List UInt8)) (acc0 : Acc) (k : Nat) (wr : World) : Prop :=
  ∃ ps' fr', takeAll (ns.take k) acc0 = some (ps', fr') ∧ PlacesAt wr nmb ps' ∧ (∃ fv', Blk wr fb 117 #[fv'] ∧ FreeAt wr fv' fr') ∧ Keeps (fun i => i = fb ∨ i = nmb) w7 wr ∧ ps'.length ≤ 512 + k

theorem takeAll_few {ns : List (List UInt8 × List UInt8)} {acc : Acc} {ps' : List (List UInt8 × Place)} {fr' : List Nat} {m : Nat} (h : takeAll ns acc = some (ps', fr')) (hm : acc.2.length ≤ m) : fr'.length ≤ m := by
  induction ns generalizing acc with
  | nil =>
    have : acc = (ps', fr') := by simpa [takeAll] using h
    rw [this] at hm
    exact hm
  | cons x r ih =>
    have e : takeAll (x :: r) acc = (takeStep acc x).bind fun a => takeAll r a := by simp [takeAll, List.foldlM]
    rw [e] at h
    cases hs : takeStep acc x with
    | none => rw [hs] at h; cases h
    | some a =>
      rw [hs] at h
      refine ih (acc := a) h ?_
      unfold takeStep at hs
      split at hs
      · injection hs with hs
        rw [← hs]
        simp only [List.length_drop]
        omega
      · cases hs

theorem minsert_length {α : Type} (x : List UInt8 × α) : ∀ m, (minsert x m).length = m.length + 1
  | [] => rfl
  | y :: r => by
    unfold Go.Proofs.YtbgiklkpinflaaaGreat.minsert
    split
    · rfl
    · simp [minsert_length x r]
theorem mput_length {α : Type} (m : List (List UInt8 × α)) (k : List UInt8) (a : α) : (mput m k a).length ≤ m.length + 1 := by
  unfold mput
  rw [minsert_length]
  have := List.length_filter_le (fun p : List UInt8 × α => !(p.1 == k)) m
  unfold mdel
  omega
theorem next_round {w7 wr w8 w9 w10 : World} {fb nmb k : Nat} {ns : List (List UInt8 × List UInt8)} {acc0 : Acc} {ps' : List (List UInt8 × Place)} {fr' : List Nat} {kl lv : List UInt8} {fv8 v8 : Value} {lp : List (List UInt8 × (Value × Place))} (hk : k < ns.length) (hnk : ns[k] = (kl, lv)) (hta : takeAll (ns.take k) acc0 = some (ps', fr')) (hnd : need lv.length ≤ fr'.length) (hkx : Keeps (fun i => i = fb ∨ i = nmb) w7 wr)
    (hn8 : NumsAt w8 v8 (fr'.take (need lv.length))) (hb8 : Blk w8 fb 117 #[fv8]) (hf8 : FreeAt w8 fv8 (fr'.drop (need lv.length))) (hk8 : Keeps (· = fb) wr w8) (hps : ps' = mmap (fun x : Value × Place => x.2) lp) (hpp : ∀ x ∈ lp, PlaceAt w8 x.2.1 x.2.2)
    (hb9 : Below w8.drew.heap.size w8.drew w9) (hM10 : MapAt w10 nmb (mput (mmap (fun x : Value × Place => x.1) lp) (⟨kl.toArray⟩ : ByteArray).data.toList (.agg #[.int .i64 (lv.length : Int), .int .u32 (crc lv), v8]))) (hg10 : w9.grownBy w10 (some nmb)) (hM8 : MapAt w8 nmb (mmap (fun x : Value × Place => x.1) lp)) (hfew : ps'.length ≤ 512 + k) :
    Nexting w7 fb nmb ns acc0 (k + 1) w10 := by
  have hb9' : Below w8.heap.size w8 w9 := below_drew hb9
  have k9 : Keeps (fun _ => False) w8 w9 := Keeps.of_below hb9'
  have k10 : Keeps (· = nmb) w9 w10 := Keeps.of_grown hg10 (fun g h => by cases h; rfl)
  have hM9 : MapAt w9 nmb _ := hM8.below hb9'
  have hU : ∀ g t cs, g = nmb → Blk w9 g t cs → False := fun g t cs e hb => hM9.not_blk (e ▸ hb)
  refine ⟨mput ps' kl ⟨lv.length, crc lv, fr'.take (need lv.length)⟩, fr'.drop (need lv.length), ?_, ⟨mput lp kl (.agg #[.int .i64 (lv.length : Int), .int .u32 (crc lv), v8], ⟨lv.length, crc lv, fr'.take (need lv.length)⟩), ?_, ?_, ?_⟩, ⟨fv8, ?_, ?_⟩, ?_, ?_⟩
  · rw [takeAll_take _ _ hk, hta, hnk]
    show takeStep _ _ = _
    unfold takeStep
    rw [if_pos hnd]
  · rw [mmap_mput]
    exact hM10
  · rw [mmap_mput, hps]
  · intro x hx
    rcases mput_mem hx with rfl | ⟨hx, _⟩
    · exact ⟨v8, rfl, (hn8.keeps k9 (fun _ _ h => h.elim)).keeps k10 (fun g cs e hb => hU g _ cs e hb)⟩
    · exact ((hpp x hx).keeps k9 (fun _ _ h => h.elim)).keeps k10 (fun g cs e hb => hU g _ cs e hb)
  · exact (hb8.keeps k9 id).keeps k10 (fun e => hU fb _ _ e (hb8.keeps k9 id))
  · exact (hf8.keeps k9 (fun _ _ h => h.elim)).keeps k10 (fun g cs e hb => hU g _ cs e hb)
  · exact (((hkx.trans hk8 (fun _ _ h => .inl h)).trans k9 (fun _ _ h => h.elim)).trans k10 (fun _ _ h => .inr h))
  · have := mput_length ps' kl ⟨lv.length, crc lv, fr'.take (need lv.length)⟩
    omega
/-- What the list of places keeps to. -/
def PsOk (ps : List (List UInt8 × Place)) : Prop := Srt ps ∧ (∀ x ∈ ps, x.1.length ≤ 64) ∧ (∀ x ∈ ps, x.2.blocks.length ≤ 274)
theorem lessGone_ok {n : Nat} {st : St} {gs : List (List UInt8 × Unit)} (h : StOk n st) : PsOk (lessGone st.places gs) := by
  refine ⟨List.Pairwise.filter _ h.srt, fun x hx => (h.keys x (List.mem_filter.1 hx).1).2, fun x hx => ?_⟩
  have h1 := (h.places x (List.mem_filter.1 hx).1)
  have h2 := h1.len
  have h3 := h1.size
  omega
theorem takeAll_ok {ns : List (List UInt8 × List UInt8)} {acc : Acc} {ps' : List (List UInt8 × Place)} {fr' : List Nat} (h : takeAll ns acc = some (ps', fr')) (ha : PsOk acc.1) (hk : ∀ x ∈ ns, x.1.length ≤ 64 ∧ x.2.length ≤ 65536) : PsOk ps' := by
  induction ns generalizing acc with
  | nil =>
    have : acc = (ps', fr') := by simpa [takeAll] using h
    rw [this] at ha
    exact ha
  | cons x r ih =>
    have e : takeAll (x :: r) acc = (takeStep acc x).bind fun a => takeAll r a := by simp [takeAll, List.foldlM]
    rw [e] at h
    cases hst : takeStep acc x with
    | none => rw [hst] at h; cases h
    | some a =>
      rw [hst] at h
      refine ih (acc := a) h ?_ (fun y hy => hk y (by simp [hy]))
      unfold takeStep at hst
      split at hst
      · injection hst with hst
        rw [← hst]
        obtain ⟨h1, h2, h3⟩ := ha
        have hx := hk x (by simp)
        refine ⟨h1.put_ _ _, fun y hy => ?_, fun y hy => ?_⟩
        · rcases mput_mem hy with rfl | ⟨hy, _⟩
          · exact hx.1
          · exact h2 y hy
        · rcases mput_mem hy with rfl | ⟨hy, _⟩
          · simp only [List.length_take]
            unfold need
            omega
          · exact h3 y hy
      · cases hst
theorem written_few : ∀ {qs : List (List UInt8 × Place)}, (∀ x ∈ qs, x.1.length ≤ 64) → (∀ x ∈ qs, x.2.blocks.length ≤ 274) → (writtenOf qs).length ≤ 700 * qs.length
  | [], _, _ => by simp [writtenOf]
  | x :: r, h1, h2 => by
    have e : writtenOf (x :: r) = placeBytes x ++ writtenOf r := rfl
    rw [e, List.length_append, placeBytes_length, List.length_cons]
    have a := h1 x (by simp)
    have b := h2 x (by simp)
    have c := written_few (qs := r) (fun y hy => h1 y (by simp [hy])) (fun y hy => h2 y (by simp [hy]))
    omega

set_option maxRecDepth 100000 in
set_option maxHeartbeats 16000000 in
theorem next_calls {w : World} {s d life a mb nb gb n : Nat} {pv fv : Value} {st : St} {ns : List (List UInt8 × List UInt8)} {gs : List (List UInt8 × Unit)} {fr : List Nat} (hs : StoBlk w s d life a pv true (.map (some nb)) (.map (some gb))) (hst : StateAt w a mb st) (hok : StOk n st) (hN : NotesW w nb ns) (hG : GoneAt w gb gs) (hf : FreeAt w fv fr)
    (hsn : Srt ns) (hsg : Srt gs) (hkn : ∀ x ∈ ns, x.1.length ≤ 64 ∧ x.2.length ≤ 65536) (hln : ns.length ≤ 512) (hfr : fr.length ≤ 1024) :
    Calls Tryz.prog 71 #[.pointer (some ⟨s, 0, none⟩), fv] w (NextPost w (st.next ns gs fr)) := by
  obtain ⟨sv, hb, hxx, l, hM, hps, hpl⟩ := hst
  clear hxx
  have c2 : w.cell? ⟨s, 2, none⟩ = some (.pointer (some ⟨a, 0, none⟩)) := hs.cell 2
  have c5 : w.cell? ⟨s, 5, none⟩ = some (.map (some nb)) := hs.cell 5
  have c6 : w.cell? ⟨s, 6, none⟩ = some (.map (some gb)) := hs.cell 6
  have d0 : w.cell? ⟨a, 0, none⟩ = some (.int .i64 (st.gen : Int)) := hb.cell 0
  have d1 : w.cell? ⟨a, 1, none⟩ = some (.map (some mb)) := hb.cell 1
  have hgen := hok.gen
  obtain ⟨Af, cf, hfv, hxx⟩ := hf
  obtain ⟨nf, hnf⟩ : ∃ nf, nf = fr.length := ⟨_, rfl⟩
  rw [← hnf] at hfv
  subst hfv
  have HF : Hid (FreeAt w (.slice Af nf cf) fr) := by
    show FreeAt _ _ _
    rw [hnf]
    exact ⟨Af, cf, rfl, hxx⟩
  clear hxx
  obtain ⟨R, hR⟩ : ∃ R, R = st.next ns gs fr := ⟨_, rfl⟩
  rw [← hR]
  have HR := Lib.hid hR
  have HS := Lib.hid hs
  have HB := Lib.hid hb
  have HM := Lib.hid hM
  have HPS := Lib.hid hps
  have HPL := Lib.hid hpl
  have HN := Lib.hid hN
  have HG := Lib.hid hG
  have HSN := Lib.hid hsn
  have HSG := Lib.hid hsg
  have HKN := Lib.hid hkn
  have HOK := Lib.hid hok
  have HNF := Lib.hid hnf
  clear hR hs hb hM hps hpl hN hG hsn hsg hkn hok hnf
  obtain ⟨w1, hw1⟩ : ∃ w1, w1 = w.alloc (.cells #[.slice Af nf cf] 117) := ⟨_, rfl⟩
  have HB1 : Hid (Below w.heap.size w w1) := by
    show Below _ _ _
    rw [hw1]
    exact (Below.refl _ w).alloc (Nat.le_refl _) _
  have HX1 : Hid (Blk w1 w.heap.size 117 #[.slice Af nf cf]) := by
    show Blk _ _ _ _
    rw [hw1]
    exact Blk.new w _ _
  have e2 : w1.cell? ⟨s, 2, none⟩ = some (.pointer (some ⟨a, 0, none⟩)) := (Blk.below HS.out HB1.out (Blk.lt HS.out)).cell 2
  have e6 : w1.cell? ⟨s, 6, none⟩ = some (.map (some gb)) := (Blk.below HS.out HB1.out (Blk.lt HS.out)).cell 6
  have f0 : w1.cell? ⟨a, 0, none⟩ = some (.int .i64 (st.gen : Int)) := (Blk.below HB.out HB1.out (Blk.lt HB.out)).cell 0
  have f1 : w1.cell? ⟨a, 1, none⟩ = some (.map (some mb)) := (Blk.below HB.out HB1.out (Blk.lt HB.out)).cell 1
  have HM1 : Hid (MapAt w1 mb (mmap (fun x : Value × Place => x.1) l)) := MapAt.below HM.out HB1.out
  go_enter Tryz.func71, Tryz.ntmps71
  go_wp2
  rw [← hw1]
  clear hw1
  have hwr : IntKind.i64.wrap ((st.gen : Int) + 1) = (st.gen : Int) + 1 := IntWalk.i64_in _ (by omega)
  go_region_held3 (fun w' => w'.cell? ⟨s, 2, none⟩ = some (.pointer (some ⟨a, 0, none⟩)) ∧ w'.cell? ⟨a, 0, none⟩ = some (.int .i64 (st.gen : Int)) ∧ w'.cell? ⟨a, 1, none⟩ = some (.map (some mb))) (go_keep)
    ((go_at_call 108; refine (clone_places (M := mmap (fun x : Value × Place => x.1) l) ?_).mono ?_; exact HM1.out; rintro e w2 ⟨rfl, hM2, hb2⟩; have g2 : w2.cell? ⟨s, 2, none⟩ = some (.pointer (some ⟨a, 0, none⟩)) := (hb2.cell (p := ⟨s, 2, none⟩) (Nat.lt_of_lt_of_le HS.out.lt HB1.out.size)).trans e2; have g0 : w2.cell? ⟨a, 0, none⟩ = some (.int .i64 (st.gen : Int)) := (hb2.cell (p := ⟨a, 0, none⟩) (Nat.lt_of_lt_of_le HB.out.lt HB1.out.size)).trans f0; have g1 : w2.cell? ⟨a, 1, none⟩ = some (.map (some mb)) := (hb2.cell (p := ⟨a, 1, none⟩) (Nat.lt_of_lt_of_le HB.out.lt HB1.out.size)).trans f1))
  clear hwr
  have HM2 : Hid (MapAt w2 w1.heap.size (mmap (fun x : Value × Place => x.1) l)) := hM2
  have HB2' := Lib.hid hb2
  clear hM2 hb2 g2 g0 g1 e2 f0 f1 c2 c5 c6 d0 d1
  obtain ⟨nmb, hnmb⟩ : ∃ nmb, nmb = w1.heap.size := ⟨_, rfl⟩
  obtain ⟨stb, hstb⟩ : ∃ stb, stb = w2.heap.size := ⟨_, rfl⟩
  obtain ⟨w3, hw3⟩ : ∃ w3, w3 = w2.alloc (.cells #[.int .i64 ((st.gen : Int) + 1), .map (some nmb), .slice none 0 0] 133) := ⟨_, rfl⟩
  have HB3 : Hid (Below w.heap.size w w3) := by
    show Below _ _ _
    have h1 : Below w1.heap.size w1 w2 := below_drew HB2'.out
    have h2 : Below w.heap.size w w2 := HB1.out.trans (h1.mono HB1.out.size)
    rw [hw3]
    exact h2.alloc h2.size _
  have HX3 : Hid (Blk w3 w.heap.size 117 #[.slice Af nf cf]) := by
    show Blk _ _ _ _
    rw [hw3]
    exact (Blk.below HX1.out (below_drew HB2'.out) HX1.out.lt).alloc _
  have HT3 : Hid (Blk w3 stb 133 #[.int .i64 ((st.gen : Int) + 1), .map (some nmb), .slice none 0 0]) := by
    show Blk _ _ _ _
    rw [hw3, hstb]
    exact Blk.new w2 _ _
  have HM3 : Hid (MapAt w3 nmb (mmap (fun x : Value × Place => x.1) l)) := by
    show MapAt _ _ _
    rw [hw3, hnmb]
    exact MapAt.below HM2.out ((Below.refl _ w2).alloc (Nat.le_refl _) _)
  have HORD : Hid (w.heap.size < nmb ∧ nmb < stb ∧ stb < w3.heap.size) := by
    refine ⟨?_, ?_, HT3.out.lt⟩
    · rw [hnmb]
      exact HX1.out.lt
    · rw [hnmb, hstb]
      exact HM2.out.lt
  rw [← hnmb, ← hstb]
  rw [← hnmb] at HM2
  rw [← hw3]
  clear hw3 hnmb hstb
  have c6 : w3.cell? ⟨s, 6, none⟩ = some (.map (some gb)) := (Blk.below HS.out HB3.out (Blk.lt HS.out)).cell 6
  have HG3 : Hid (MapAt w3 gb (mmap (fun _ => Value.bool true) gs)) := MapAt.below HG.out HB3.out
  go_wp2_with (at_range; refine wpList_mrange _ rfl _ _ rfl 4 Tryz.underlying98 gb (mmap (fun _ => Value.bool true) gs) rfl ?hM ?_)
  case hM => exact HG3.out
  intro w4 hr4 hg4 hs4
  have hB4 : Below w3.heap.size w3 w4 := (Below.refl _ w3).grown hg4 (Nat.le_refl _) (fun _ h => by cases h)
  have HR4 := Lib.hid hr4
  have HB4 := Lib.hid hB4
  clear hr4 hg4 hs4 hB4 c6
  obtain ⟨r, hr⟩ : ∃ r, r = w3.heap.size := ⟨_, rfl⟩
  rw [← hr] at HR4
  rw [← hr]
  have hrn : nmb < r ∧ stb < r ∧ w.heap.size < r := by
    have := HORD.out
    omega
  have HRN := Lib.hid hrn
  have hr34 : w3.heap.size ≤ w4.heap.size := HB4.out.size
  have HMG : Hid (∀ y ∈ mmap (fun _ : Unit => Value.bool true) gs, y ∈ mmap (fun _ : Unit => Value.bool true) gs) := fun _ h => h
  clear hrn hr
  go_wp2
  go_loopw [7] (fun _ wr => ∃ rem, RangeAt wr gb r (mmap (fun _ => Value.bool true) gs) rem ∧ MapAt wr nmb (struck (mmap (fun x : Value × Place => x.1) l) (mmap (fun _ => Value.bool true) gs) rem) ∧ Keeps (fun i => i = nmb ∨ i = r) w4 wr ∧ Srt rem ∧ (∀ y ∈ rem, y ∈ mmap (fun _ : Unit => Value.bool true) gs)) (fun _ wr => wr.rangeLeft gb r)
  case atStart => exact ⟨_, HR4.out, by rw [struck_start]; exact MapAt.below HM3.out HB4.out, Keeps.refl _ _, HSG.out.map_ _, HMG.out⟩
  case round =>
    obtain ⟨rem, hra, hmr, hkr, hsr, hsub⟩ := hrel
    have HRA := Lib.hid hra
    have HMR := Lib.hid hmr
    have HKR := Lib.hid hkr
    have HSR := Lib.hid hsr
    have HSUB := Lib.hid hsub
    clear hra hmr hkr hsr hsub
    have hBw : Below w.heap.size w wr := below_keeps2 (HB3.out.trans (HB4.out.mono HB3.out.size)) HKR.out (by have := HORD.out; omega) (by have := HRN.out; omega)
    have HBW := Lib.hid hBw
    clear hBw
    go_wp2_with (at_next; refine wpList_mnext _ rfl _ rfl gb r (mmap (fun _ => Value.bool true) gs) rem rfl HRA.out ?_ ?_)
    · intro hrem
      have HREM := Lib.hid hrem
      clear hrem
      have hmend : MapAt wr nmb (lessGone (mmap (fun x : Value × Place => x.1) l) (mmap (fun _ => Value.bool true) gs)) := by
        rw [← struck_end, ← HREM.out]
        exact HMR.out
      have HME := Lib.hid hmend
      have c5 : wr.cell? ⟨s, 5, none⟩ = some (.map (some nb)) := (Blk.below HS.out HBW.out (Blk.lt HS.out)).cell 5
      have HNW := Lib.hid (HN.out.below HBW.out)
      clear hmend
      obtain ⟨ln, hMn, hns, hnv⟩ := HNW.out
      have hlen : (mmap (fun x : Value × List UInt8 => x.1) ln).length = ns.length := by rw [hns, mmap_length, mmap_length]
      have hsrt : Srt (mmap (fun x : Value × List UInt8 => x.1) ln) := by
        have h1 := HSN.out
        rw [hns] at h1
        unfold Srt mmap at h1 ⊢
        rw [List.pairwise_map] at h1 ⊢
        exact h1
      have hkeys : (mmap (fun x : Value × List UInt8 => x.1) ln).map (·.1) = ns.map (·.1) := by rw [hns]; simp [mmap]
      have HKC := Lib.hid (keys_notes wr nb _ hMn hsrt (by rw [hlen]; omega))
      have HMN := Lib.hid hMn
      have HNS := Lib.hid hns
      have HNV := Lib.hid hnv
      have HSRT := Lib.hid hsrt
      have HKE := Lib.hid hkeys
      obtain ⟨N, hN⟩ : ∃ N, N = ns.length := ⟨_, rfl⟩
      rw [← hN] at hln
      have HNL := Lib.hid hN
      clear hMn hns hnv hsrt hkeys hlen hN
      go_wp2_with (first
        | (go_at_call 73; refine (callsIn_wide.1 (Tryz.maps_Keys_73 _ _)).mono ?_; rintro e w' ⟨rfl, rfl⟩)
        | (go_at_call 72; refine HKC.out.mono ?_; rintro e w7 ⟨vk, rfl, hstr, hbel⟩; rw [HKE.out] at hstr; obtain ⟨Ak, ck, hvk, hck⟩ := strs_slice hstr; rw [List.length_map, ← HNL.out] at hvk; subst hvk; have HCK := Lib.hid hck; have HSTR := Lib.hid hstr; have HBEL := Lib.hid hbel; clear hck hstr hbel))
      have hlg2 : (lessGone l gs).length ≤ 512 := by
        have h1 : (lessGone l gs).length ≤ l.length := List.length_filter_le _ _
        have h2 := HOK.out.few
        rw [HPS.out, mmap_length] at h2
        omega
      have hBW7 : Below w.heap.size w w7 := HBW.out.trans (HBEL.out.mono HBW.out.size)
      have HB7 := Lib.hid hBW7
      have HX7 : Hid (Blk w7 w.heap.size 117 #[.slice Af nf cf]) := by
        have h1 : Blk wr w.heap.size 117 _ := (Blk.below HX3.out HB4.out HX3.out.lt).keeps HKR.out (by have := HORD.out; have := HRN.out; rintro (h | h) <;> omega)
        exact Blk.below h1 HBEL.out h1.lt
      have HT7 : Hid (Blk w7 stb 133 #[.int .i64 ((st.gen : Int) + 1), .map (some nmb), .slice none 0 0]) := by
        have h1 : Blk wr stb 133 _ := (Blk.below HT3.out HB4.out HT3.out.lt).keeps HKR.out (by have := HORD.out; have := HRN.out; rintro (h | h) <;> omega)
        exact Blk.below h1 HBEL.out h1.lt
      have HP7 : Hid (PlacesAt w7 nmb (lessGone st.places gs)) := by
        refine ⟨lessGone l gs, ?_, ?_, fun x hx => ?_⟩
        · rw [lessGone_map] at HME
          exact MapAt.below HME.out HBEL.out
        · rw [HPS.out]
          have := lessGone_map (fun x : Value × Place => x.2) (fun _ : Unit => Value.bool true) l gs
          rw [← this]
          unfold lessGone mmap
          congr 1
          funext x
          simp [List.any_map, Function.comp_def]
        · exact (HPL.out x (List.mem_filter.1 hx).1).keeps (Keeps.of_below (F := fun _ => False) HB7.out) (fun _ _ h => h.elim)
      have HF7 : Hid (FreeAt w7 (.slice Af nf cf) fr) := HF.out.keeps (Keeps.of_below (F := fun _ => False) HB7.out) (fun _ _ h => h.elim)
      have HMN7 : Hid (MapAt w7 nb (mmap (fun x : Value × List UInt8 => x.1) ln)) := MapAt.below HMN.out HBEL.out
      have HNV7 : Hid (∀ x ∈ ln, BytesAt (fun _ => True) w7 x.2.1 x.2.2) := fun x hx => (HNV.out x hx).keeps (Keeps.of_below (F := fun _ => False) HBEL.out) (fun _ _ h => h.elim)
      have hO7 : nmb < w7.heap.size ∧ w.heap.size < w7.heap.size ∧ stb < w7.heap.size ∧ w.heap.size < nmb ∧ nmb < stb := by
        have := HORD.out
        have := HT7.out.lt
        omega
      have HO7 := Lib.hid hO7
      have HGK : Hid (∀ g, (Value.slice Ak N ck).ownBlock = some g → g ≠ w.heap.size ∧ g ≠ nmb) := by
        intro g hg
        have h1 := own_ge HSTR.out g hg
        have h2 : Blk wr stb 133 _ := (Blk.below HT3.out HB4.out HT3.out.lt).keeps HKR.out (by have := HORD.out; have := HRN.out; rintro (h | h) <;> omega)
        have h3 := h2.lt
        have := HORD.out
        omega
      clear hBW7 hlg2 hO7
      go_loopw [56] (fun i wx => ∃ k : Nat, k ≤ N ∧ i = .int .i64 k ∧ Nexting w7 w.heap.size nmb ns (lessGone st.places gs, fr) k wx) (fun i _ => N - (intOf i).toNat)
      case atStart => exact ⟨0, Nat.zero_le _, rfl, _, _, rfl, HP7.out, ⟨_, HX7.out, HF7.out⟩, Keeps.refl _ _, lessGone_few HOK.out.few⟩
      case round =>
        obtain ⟨k, hk, rfl, hX⟩ := hrel
        by_cases hlt : k < N
        · obtain ⟨ps', fr', hta, hpa, ⟨fv', hbx, hfa⟩, hkx, hfew⟩ := hX
          have hlt2 : k < ns.length := by rw [← HNL.out]; exact hlt
          have hlt3 : k < ln.length := by have := HNS.out; rw [this, mmap_length] at hlt2; exact hlt2
          obtain ⟨x, hx⟩ : ∃ x, x = ln[k] := ⟨_, rfl⟩
          have hnk : ns[k] = (x.1, x.2.2) := by
            have h1 : (mmap (fun x : Value × List UInt8 => x.2) ln)[k]? = some (x.1, x.2.2) := by simp [mmap, hx, hlt3]
            have h2 := HNS.out
            rw [← h2, List.getElem?_eq_getElem hlt2] at h1
            injection h1
          obtain ⟨kl, hkl⟩ : ∃ kl, kl = x.1 := ⟨_, rfl⟩
          obtain ⟨lv, hlv⟩ : ∃ lv, lv = x.2.2 := ⟨_, rfl⟩
          rw [← hkl, ← hlv] at hnk
          have hmx : x ∈ ln := by rw [hx]; exact List.getElem_mem _
          have hgx : mget (mmap (fun x : Value × List UInt8 => x.1) ln) kl = some x.2.1 := by
            rw [hkl]
            exact mget_at HSRT.out (k := k) (x := (x.1, x.2.1)) (by simp [mmap, hx, hlt3])
          have hbb := HNV7.out x hmx
          rw [← hlv] at hbb
          have hkk := HKN.out ns[k] (List.getElem_mem _)
          rw [hnk] at hkk
          obtain ⟨gk, rfl, hgk, hcell⟩ := HCK.out (by rw [List.length_map]; omega)
          have hgn := HGK.out gk (by simp [Value.ownBlock])
          have q1 : wr.cell? ⟨gk, k, none⟩ = some (.string ⟨kl.toArray⟩) := by
            have := hcell k (by rw [List.length_map]; exact hlt2)
            rw [List.getElem_map, hnk] at this
            exact hkx.cell this (by rintro (h | h); exact hgn.1 h; exact hgn.2 h)
          have hsw : s < w.heap.size := HS.out.lt
          have hnbw : nb < w.heap.size := by
            obtain ⟨_, h, _⟩ := HN.out
            exact h.lt
          have q5 : wr.cell? ⟨s, 5, none⟩ = some (.map (some nb)) := ((Blk.below HS.out HB7.out (Blk.lt HS.out)).keeps hkx (by have := HO7.out; rintro (h | h) <;> omega)).cell 5
          have q6 : wr.cell? ⟨stb, 1, none⟩ = some (.map (some nmb)) := (HT7.out.keeps hkx (by have := HO7.out; rintro (h | h) <;> omega)).cell 1
          have hmn : MapAt wr nb (mmap (fun x : Value × List UInt8 => x.1) ln) := HMN7.out.keeps hkx (by have := HO7.out; rintro (h | h) <;> omega)
          have hbw : BytesAt (fun _ => True) wr x.2.1 lv := hbb.keeps hkx (fun g cs hg _ hk => by
            rcases hg with h | h
            · subst h; exact hk.ne_ HX7.out (by decide) rfl
            · subst h
              obtain ⟨_, hm, _⟩ := HP7.out
              exact hm.not_blk hk)
          obtain ⟨xv, hxv⟩ : ∃ xv, xv = x.2.1 := ⟨_, rfl⟩
          rw [← hxv] at hgx hbw
          obtain ⟨gv, capv, curv, rfl, hlev, _, hbv, hcv⟩ := hbw.cells
          have HGX := Lib.hid hgx
          have HMW := Lib.hid hmn
          have HNK := Lib.hid hnk
          have HTA := Lib.hid hta
          have HPA := Lib.hid hpa
          have HBX := Lib.hid hbx
          have HFA := Lib.hid hfa
          have HKX := Lib.hid hkx
          have HCV := Lib.hid hcv
          have HBV := Lib.hid hbv
          have hk64 : (⟨kl.toArray⟩ : ByteArray).size ≤ maxLen := by
            have h1 : (⟨kl.toArray⟩ : ByteArray).size = kl.length := by simp [ByteArray.size]
            rw [h1]
            unfold maxLen
            have := hkk.1
            simp only at this
            omega
          have hlv2 : lv.length ≤ 65536 := hkk.2
          obtain ⟨fl, hfl⟩ : ∃ fl, fl = fr'.length := ⟨_, rfl⟩
          have hfl2 : fr'.length ≤ 1024 := takeAll_few HTA.out hfr
          clear hgx hmn hnk hta hpa hbx hfa hkx hcv hbv hbb hbw hcell hkk hmx hxv hx hlv hkl hgk hgn
          by_cases hnd : need lv.length ≤ fr'.length
          · have hty := take_yes (n := need lv.length) HBX.out HFA.out hnd (by omega)
            have HTY := Lib.hid hty
            have HND := Lib.hid hnd
            clear hty hnd
            go_wp2_with (first
              | (at_lookup; refine wpList_get_some _ rfl _ _ _ rfl 89 Tryz.underlying97 (Tryz.zeroValue89 _) nb _ rfl HMW.out ⟨kl.toArray⟩ rfl hk64 _ HGX.out ?_)
              | (go_at_call 111; refine (needed_calls lv.length _ (by omega)).mono ?_; rintro e w' ⟨rfl, rfl⟩)
              | (go_at_call 109; refine HTY.out.mono ?_; rintro e w8 ⟨v8, fv8, rfl, hn8, hb8, hf8, hk8⟩; obtain ⟨A8, m8, c8, rfl⟩ : ∃ A8 m8 c8, v8 = .slice A8 m8 c8 := (by obtain ⟨A8, c8, e8, _⟩ := hn8; exact ⟨_, _, _, e8⟩); have HN8 := Lib.hid hn8; have HB8 := Lib.hid hb8; have HF8 := Lib.hid hf8; have HK8 := Lib.hid hk8; clear hn8 hb8 hf8 hk8))
            have hmp8 : PlacesAt w8 nmb ps' := HPA.out.keeps HK8.out (fun g cs hg hk => by subst hg; exact hk.ne_ HBX.out (by decide) rfl) (by have := HO7.out; intro h; omega)
            obtain ⟨lp, hMp, hps8, hpp8⟩ := hmp8
            have hc8 : Cells w8.drew gv 0 (lv.map bv) := HCV.out.keeps (HK8.out.drew) (fun hg => by subst hg; exact HBV.out.ne_ HBX.out (by decide) rfl)
            have q68 : w8.cell? ⟨stb, 1, none⟩ = some (.map (some nmb)) := HK8.out.cell q6 (by have := HO7.out; intro h; simp only at h; omega)
            have hpl8 : ps'.length ≤ 1100 := by omega
            have hlp8 : (mmap (fun x : Value × Place => x.1) lp).length < 100000 := by
              have h1 : ps'.length = lp.length := by rw [hps8, mmap_length]
              rw [mmap_length]
              omega
            have HMP8 := Lib.hid hMp
            have HPS8 := Lib.hid hps8
            have HPP8 := Lib.hid hpp8
            have HC8 := Lib.hid hc8
            have hst8 : stb < w8.heap.size := World.block_lt_of_cell? w8 _ q68
            clear hMp hps8 hpp8 hc8
            go_region_law
              (first
                | (go_simp; go_at_call 112; refine (checksum_calls _ _ _ lv _ rfl ?_ ?_).mono ?_; omega; exact fun _ => ⟨gv, 0, rfl, HC8.out⟩; rintro e w9 ⟨rfl, hb9⟩; have q69 : w9.cell? ⟨stb, 1, none⟩ = some (.map (some nmb)) := (hb9.cell (p := ⟨stb, 1, none⟩) hst8).trans q68; obtain ⟨w10, hrun10, hM10, hg10⟩ := updP_run (MapAt.below (w := w8.drew) HMP8.out hb9) hlp8 ⟨kl.toArray⟩ hk64 (.agg #[.int .i64 (lv.length : Int), .int .u32 (crc lv), .slice A8 m8 c8])))
            all_goals
              go_wp2
              exact ⟨⟨k + 1, by omega, by go_num, next_round hlt2 HNK.out HTA.out HND.out HKX.out HN8.out HB8.out HF8.out HK8.out HPS8.out HPP8.out hb9 hM10 hg10 HMP8.out hfew⟩, by simp [intOf]; omega⟩
          · have htn := take_no (n := need lv.length) HBX.out HFA.out (by omega)
            have HTN := Lib.hid htn
            have HND := Lib.hid hnd
            clear htn hnd
            go_wp2_with (first
              | (at_lookup; refine wpList_get_some _ rfl _ _ _ rfl 89 Tryz.underlying97 (Tryz.zeroValue89 _) nb _ rfl HMW.out ⟨kl.toArray⟩ rfl hk64 _ HGX.out ?_)
              | (go_at_call 111; refine (needed_calls lv.length _ (by omega)).mono ?_; rintro e w' ⟨rfl, rfl⟩)
              | (go_at_call 109; refine HTN.out.mono ?_; rintro e w8 ⟨rfl, rfl⟩))
            go_ret2
            refine ⟨below_keeps2 HB7.out HKX.out (Nat.le_refl _) (by have := HO7.out; omega), .inl ⟨?_, _, rfl⟩⟩
            rw [HR.out]
            unfold St.next
            rw [takeAll_none (k := k + 1) (by rw [takeAll_take _ _ hlt2, HTA.out, HNK.out]; show takeStep _ _ = none; unfold takeStep; rw [if_neg HND.out])]
            rfl
        · have hke : k = N := by omega
          obtain ⟨ps', fr', hta, hpa, ⟨fv', hbx, hfa⟩, hkx, hfew⟩ := hX
          rw [List.take_of_length_le (by rw [← HNL.out]; omega)] at hta
          have hok' := takeAll_ok hta (lessGone_ok HOK.out) HKN.out
          have q6 : wr.cell? ⟨stb, 1, none⟩ = some (.map (some nmb)) := (HT7.out.keeps hkx (by have := HO7.out; rintro (h | h) <;> omega)).cell 1
          have HTA := Lib.hid hta
          have HPA := Lib.hid hpa
          have HBX := Lib.hid hbx
          have HFA := Lib.hid hfa
          have HKX := Lib.hid hkx
          have HOK' := Lib.hid hok'
          have HKE := Lib.hid hke
          have hpl : ps'.length ≤ 1100 := by omega
          clear hta hpa hbx hfa hkx hok' hke
          obtain ⟨wn, hwn⟩ : ∃ wn, wn = (writtenOf ps').length := ⟨_, rfl⟩
          have HLC := Lib.hid (length_calls wr HPA.out HOK'.out.1 HOK'.out.2.1 HOK'.out.2.2 (by omega))
          rw [← hwn] at HLC
          have HWN := Lib.hid hwn
          have hwl : wn ≤ 1000000 := by
            rw [hwn]
            exact Nat.le_trans (written_few HOK'.out.2.1 HOK'.out.2.2) (by omega)
          clear hwn
          obtain ⟨wd, hwd⟩ : ∃ wd, wd = need wn := ⟨_, rfl⟩
          have HWD := Lib.hid hwd
          go_wp2_with (first
            | (go_at_call 113; refine HLC.out.mono ?_; rintro e w8 ⟨rfl, hb8⟩; have HB8 := Lib.hid hb8; clear hb8)
            | (go_at_call 111; refine (needed_calls wn _ (by omega)).mono ?_; rintro e w' ⟨rfl, rfl⟩))
          obtain ⟨nx, hnx⟩ : ∃ nx, nx = max 1 (need wn) := ⟨_, rfl⟩
          have em : max (1 : Int) (((wn : Int) + 239) / 240) = (nx : Int) := by
            rw [hnx]
            unfold need
            omega
          rw [em]
          have HNX := Lib.hid hnx
          clear em hnx hwd
          have hbx8 : Blk w8 w.heap.size 117 #[fv'] := Blk.below HBX.out HB8.out HBX.out.lt
          have hfa8 : FreeAt w8 fv' fr' := HFA.out.keeps (Keeps.of_below (F := fun _ => False) HB8.out) (fun _ _ h => h.elim)
          have hbt8 : Blk w8 stb 133 #[.int .i64 ((st.gen : Int) + 1), .map (some nmb), .slice none 0 0] := by
            have h1 := HT7.out.keeps HKX.out (by have := HO7.out; rintro (h | h) <;> omega)
            exact Blk.below h1 HB8.out h1.lt
          have HBT8 := Lib.hid hbt8
          have HP8 := Lib.hid (HPA.out.keeps (Keeps.of_below (F := fun _ => False) HB8.out) (fun _ _ h => h.elim) id)
          have HBW8 : Hid (Below w.heap.size w w8) := by
            have h1 : Below w.heap.size w wr := below_keeps2 HB7.out HKX.out (Nat.le_refl _) (by have := HO7.out; omega)
            exact h1.trans (HB8.out.mono h1.size)
          have hRe : ∀ b : Bool, b = decide (nx ≤ fr'.length) → R = if b then some ⟨st.gen + 1, ps', fr'.take nx⟩ else none := by
            intro b hb
            rw [HR.out]
            unfold St.next
            rw [HTA.out]
            show (if _ then _ else _) = _
            rw [← HWN.out, ← HNX.out, hb]
            simp
          have HRE := Lib.hid hRe
          clear hRe hbt8
          by_cases hnd : nx ≤ fr'.length
          · have HTY := Lib.hid (take_yes (n := nx) hbx8 hfa8 hnd (by have := takeAll_few HTA.out hfr; omega))
            have HND := Lib.hid hnd
            clear hbx8 hfa8 hnd
            refine HTY.out.mono ?_
            rintro e w9 ⟨v9, fv9, rfl, hn9, hb9, hf9, hk9⟩
            obtain ⟨A9, m9, c9, rfl⟩ : ∃ A9 m9 c9, v9 = .slice A9 m9 c9 := by
              obtain ⟨A9, c9, e9, _⟩ := hn9
              exact ⟨_, _, _, e9⟩
            have hbt9 : Blk w9 stb 133 #[.int .i64 ((st.gen : Int) + 1), .map (some nmb), .slice none 0 0] := HBT8.out.keeps hk9 (by have := HO7.out; intro h; omega)
            have q2 : w9.cell? ⟨stb, 2, none⟩ = some (.slice none 0 0) := hbt9.cell 2
            have g2 : w9.frozen? ⟨stb, 2, none⟩ = false := hbt9.frozen 2
            have HN9 := Lib.hid hn9
            have HBT9 := Lib.hid hbt9
            have HK9 := Lib.hid hk9
            have HB9 := Lib.hid hb9
            clear hn9 hbt9 hk9 hb9 hf9
            go_wp2
            go_ret2
            have k10 := Keeps.set1 w9 stb 2 (.slice A9 m9 c9)
            have hU : ∀ g cs, g = stb → Blk w9 g 3 cs → False := fun g cs e hk => by subst e; exact hk.ne_ HBT9.out (by decide) rfl
            refine ⟨?_, .inr ⟨⟨st.gen + 1, ps', fr'.take nx⟩, stb, nmb, ?_, rfl, ⟨.slice A9 m9 c9, ?_, HN9.out.keeps k10 hU, ?_⟩, by have := HO7.out; omega, by have := HO7.out; omega⟩⟩
            · have k1 : Keeps (fun i => i = w.heap.size ∨ i = stb) w8 (w9.setCell ⟨stb, 2, none⟩ (.slice A9 m9 c9)) := (HK9.out.weaken (F := fun i => i = w.heap.size ∨ i = stb) (fun _ _ h => .inl h)).trans k10 (fun _ _ h => .inr h)
              exact below_keeps2 HBW8.out k1 (Nat.le_refl _) (by have := HO7.out; omega)
            · rw [HRE.out true (by simp [HND.out])]
              rfl
            · have h1 := HBT9.out.set_ 2 (.slice A9 m9 c9)
              have e1 : (((st.gen + 1 : Nat)) : Int) = (st.gen : Int) + 1 := by omega
              show Blk _ _ _ #[.int .i64 (((st.gen + 1 : Nat)) : Int), _, _]
              rw [e1]
              exact h1
            · refine (HP8.out.keeps HK9.out (fun g cs hg hk => by subst hg; exact hk.ne_ (Blk.below HBX.out HB8.out HBX.out.lt) (by decide) rfl) (by have := HO7.out; intro h; omega)).keeps k10 hU (by have := HO7.out; intro h; omega)
          · have HTN := Lib.hid (take_no (n := nx) hbx8 hfa8 (by omega))
            have HND := Lib.hid hnd
            clear hbx8 hfa8 hnd
            refine HTN.out.mono ?_
            rintro e w9 ⟨rfl, rfl⟩
            have q2 : w8.cell? ⟨stb, 2, none⟩ = some (.slice none 0 0) := HBT8.out.cell 2
            have g2 : w8.frozen? ⟨stb, 2, none⟩ = false := HBT8.out.frozen 2
            go_wp2
            go_ret2
            refine ⟨?_, .inl ⟨?_, _, rfl⟩⟩
            · have k1 := (Keeps.set1 w8 stb 2 (.slice none 0 0)).weaken (F := fun i => i = stb ∨ i = stb) (fun _ _ h => .inl h)
              exact below_keeps2 HBW8.out k1 (by have := HO7.out; omega) (by have := HO7.out; omega)
            · rw [HRE.out false (by simp [HND.out])]
              rfl
    · intro key v w5 hks hget hmem hr5 hlt5 hg5 hs5 hen
      have hmr5 : MapAt w5 nmb (struck (mmap (fun x : Value × Place => x.1) l) (mmap (fun _ => Value.bool true) gs) rem) := HMR.out.keeps (Keeps.of_grown (F := (· = r)) hg5 (fun g h => by cases h; rfl)) (fun e => by have := HRN.out; omega)
      have q1 : w5.cell? ⟨stb, 1, none⟩ = some (.map (some nmb)) := by
        have h1 : Blk wr stb 133 _ := (Blk.below HT3.out HB4.out HT3.out.lt).keeps HKR.out (by have := HORD.out; have := HRN.out; rintro (h | h) <;> omega)
        exact (h1.grown hg5 (by intro h; cases h; have := HRN.out; omega)).cell 1
      have HMR5 := Lib.hid hmr5
      have HR5 := Lib.hid hr5
      have HLT5 := Lib.hid hlt5
      have HG5 := Lib.hid hg5
      have HMEM := Lib.hid hmem
      clear hmr5 hr5 hlt5 hg5 hmem hget hs5
      go_wp2_with (at_delete; refine wpList_del _ rfl _ _ _ rfl 130 Tryz.underlying131 nmb _ rfl HMR5.out key rfl hks ?_; intro w6 hM6 hg6; have HM6 := Lib.hid hM6; have HG6 := Lib.hid hg6; clear hM6 hg6; go_frame)
      exact strike_round (by have := HRN.out; omega) (by have := HG.out; have h1 : gb < w.heap.size := MapAt.lt this; have := HORD.out; omega) HR5.out HM6.out HG6.out HG5.out HKR.out HSR.out HSUB.out HMEM.out HLT5.out

end Go.Proofs.YtbgiklkpinflaaaGreat
