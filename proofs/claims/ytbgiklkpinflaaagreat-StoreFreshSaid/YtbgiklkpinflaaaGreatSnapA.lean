/- Snapshot; a snapshot's Get. The store in memory with the list of its snapshots named: its calls. (Printed by wip/ston_gen.py out of Box and Snap.). -/
import Derived.Test.YtbgiklkpinflaaaGreatLaw

namespace Go.Proofs.YtbgiklkpinflaaaGreat
open Go.RowKit Go.Shelf Go.Maps
attribute [local go_sem ↓] Go.wp_at_zero Go.wp_at_succ

theorem Tryz.infoSnap : (Tryz.prog.info? 31).map (fun i => (i.zero, i.size, i.bytes)) = some (some (.pointer none), 1, 8) := by kernel_rfl
def Sto.pinned (X : Sto) : Sto := { X with pins := X.pins ++ [X.now] }
/-- A snapshot in memory: the store's block, the state's, its map's. -/
def SnapAt (w : World) (p s a mb : Nat) (st : St) : Prop := Blk w p 103 #[.pointer (some ⟨s, 0, none⟩), .pointer (some ⟨a, 0, none⟩)] ∧ StateAt w a mb st
theorem SnapAt.below {w w' : World} {p s a mb : Nat} {st : St} (h : SnapAt w p s a mb st) (hb : Below w.heap.size w w') : SnapAt w' p s a mb st := ⟨h.1.below hb h.1.lt, h.2.below hb⟩

theorem own_is_blk {w : World} {base n size : Nat} {e : TypeId} {v : Value} {xs : List Value} (h : w.ownsRow base e size v n xs) {g : Nat} (hg : v.ownBlock = some g) : ∃ cs, Blk w g e cs := by
  rcases h.2 with ⟨rfl, _⟩ | ⟨g', cap, cur, rfl, _, hh, _⟩
  · simp [Value.ownBlock] at hg
  · have : g' = g := by simpa [Value.ownBlock] using hg
    subst this
    exact ⟨_, hh⟩
/-- Behind the append. -/
theorem snap_end {P : Nat → Prop} {w w2 w3 : World} {s d : Nat} {X : Sto} {Sd T : List Nat} {a mb : Nat} {pv nv gv sv3 : Value} {pins : List PinPlace} (h : StoParts P w s d X Sd T a mb pv pins nv gv) (hB : Below w.heap.size w w2) {p : Nat}
    (hp : Blk w2 p 103 #[.pointer (some ⟨s, 0, none⟩), .pointer (some ⟨a, 0, none⟩)]) (hown : w3.ownsRow 0 31 1 sv3 (pins.length + 1) (ptrs pins ++ [.pointer (some ⟨p, 0, none⟩)])) (hgrow : w2.grownBy w3 pv.ownBlock)
    (hat : sv3.ownBlock = pv.ownBlock ∨ ∃ g, sv3.ownBlock = some g ∧ w2.heap.size ≤ g) :
    SnapAt (w3.setCell ⟨s, 3, none⟩ sv3) p s a mb X.now ∧ StoPost P w s d X.pinned (s :: (Sd ++ (T ++ pv.ownBlock.toList))) (w3.setCell ⟨s, 3, none⟩ sv3) := by
  have hso : pv.ownBlock ≠ some s := own_blk_ne h.hpins.own h.hs (by decide)
  have k : Keeps (fun g => g = s ∨ pv.ownBlock = some g) w (w3.setCell ⟨s, 3, none⟩ sv3) :=
    ((Keeps.of_below (F := fun g => g = s ∨ pv.ownBlock = some g) hB).grown hgrow (fun g hr _ => .inr hr)).setCell (p := ⟨s, 3, none⟩) (fun _ => .inl rfl) sv3
  have hblk : ∀ g, (g = s ∨ pv.ownBlock = some g) → ∃ t cs, Blk w g t cs ∧ (t = 100 ∨ t = 31) := fun g hg => by
    rcases hg with rfl | hg
    · exact ⟨_, _, h.hs, .inl rfl⟩
    · obtain ⟨cs, hb⟩ := own_is_blk h.hpins.own hg
      exact ⟨_, cs, hb, .inr rfl⟩
  have hT : ∀ g t cs, (g = s ∨ pv.ownBlock = some g) → Blk w g t cs → t = 100 ∨ t = 31 := fun g t cs hg hb => by
    obtain ⟨t', cs', hb', ht⟩ := hblk g hg
    rw [(hb.det hb').2]
    exact ht
  have hU : ∀ g cs, (g = s ∨ pv.ownBlock = some g) → P g → Blk w g 5 cs → False := fun g cs hg _ hb => by
    rcases hT g _ cs hg hb with h | h <;> exact absurd h (by decide)
  have hM : ∀ b M, MapAt w b M → ¬ (b = s ∨ pv.ownBlock = some b) := fun b M hM hg => by
    obtain ⟨t, cs, hb, _⟩ := hblk b hg
    exact hM.not_blk hb
  have hSt : ∀ a mb st, StateAt w a mb st → StateAt (w3.setCell ⟨s, 3, none⟩ sv3) a mb st := fun a mb st hst => by
    refine hst.keeps k (fun g t cs hg hb => ?_) ?_
    · rcases hT g t cs hg hb with h | h
      all_goals
        subst h
        exact ⟨by decide, by decide⟩
    · obtain ⟨_, _, _, l, hm, _⟩ := hst
      exact hM _ _ hm
  have hs3 : Blk w3 s 100 _ := (Blk.below h.hs hB (Blk.lt h.hs)).grown hgrow hso
  have hps : p ≠ s := by
    rintro rfl
    exact absurd (hp.det (Blk.below h.hs hB (Blk.lt h.hs))).2 (by decide)
  have hpo : pv.ownBlock ≠ some p := fun e => by
    obtain ⟨cs, hb⟩ := own_is_blk h.hpins.own e
    exact absurd (hp.det (hb.below hB hb.lt)).2 (by decide)
  have hp4 : Blk (w3.setCell ⟨s, 3, none⟩ sv3) p 103 #[.pointer (some ⟨s, 0, none⟩), .pointer (some ⟨a, 0, none⟩)] := (hp.grown hgrow hpo).far (p := ⟨s, 3, none⟩) hps sv3
  have hso3 : sv3.ownBlock ≠ some s := by
    rcases hat with e | ⟨g, e, hg⟩
    · rw [e]
      exact hso
    · rw [e]
      intro e2
      have e3 : g = s := by simpa using e2
      have := h.hs.lt
      have := hB.size
      omega
  refine ⟨⟨hp4, hSt _ _ _ h.now⟩, _, StoParts.a_ (X := X.pinned) (pins := pins ++ [(p, a, mb)]) ⟨hs3.set_ 3 sv3, h.disk.keeps k ?_ hU, hSt _ _ _ h.now, ⟨?_, ?_, ?_⟩, h.trans.keeps k hU ?_, h.mbT, ?_⟩, ?_, k.weaken ?_⟩
  · intro g hg e
    obtain ⟨t, cs, hb, ht⟩ := h.disk.lt g hg
    rcases hT g t cs e hb with e2 | e2
    all_goals
      subst e2
      rcases ht with h | h | h <;> exact absurd h (by decide)
  · have := ownsRow_keeps hown (Keeps.set1 w3 s 3 sv3) (fun g hg e => hso3 (by rw [hg, e]))
    rw [List.length_append]
    unfold ptrs
    rw [List.map_append]
    exact this
  · rw [List.length_append, h.hpins.len]
    simp [Sto.pinned]
  · intro i q st hq hst
    have hst : (X.pins ++ [X.now])[i]? = some st := hst
    rcases Nat.lt_or_ge i pins.length with hi | hi
    · rw [List.getElem?_append_left hi] at hq
      rw [List.getElem?_append_left (by rw [← h.hpins.len]; exact hi)] at hst
      obtain ⟨b1, b2⟩ := h.hpins.pat i q st hq hst
      refine ⟨b1.keeps k fun e => ?_, hSt _ _ _ b2⟩
      rcases hT _ _ _ e b1 with h | h <;> exact absurd h (by decide)
    · rw [List.getElem?_append_right hi] at hq
      rw [List.getElem?_append_right (by rw [← h.hpins.len]; exact hi)] at hst
      have hi0 : i - pins.length = 0 := by
        rcases Nat.eq_zero_or_pos (i - pins.length) with h0 | h0
        · exact h0
        · rw [List.getElem?_eq_none (by simp; omega)] at hq
          cases hq
      rw [hi0] at hq
      rw [← h.hpins.len, hi0] at hst
      simp at hq hst
      subst hq
      subst hst
      exact ⟨hp4, hSt _ _ _ h.now⟩
  · intro g hg e
    obtain ⟨M, hm⟩ := h.trans.maps hg
    exact hM _ _ hm e
  · intro q hq
    rcases List.mem_append.1 hq with hq | hq
    · exact h.pinT q hq
    · simp at hq
      subst hq
      exact h.mbT
  · intro i hi
    simp only [List.mem_cons, List.mem_append, Option.mem_toList] at hi ⊢
    rcases hi with h1 | h1 | h1 | h1
    · exact .inl (.inl h1)
    · exact .inl (.inr (.inl h1))
    · exact .inl (.inr (.inr (.inl h1)))
    · rcases hat with e | ⟨g, e, hg⟩
      · rw [e] at h1
        exact .inl (.inr (.inr (.inr h1)))
      · rw [e] at h1
        have e3 : g = i := by simpa using h1
        have := hB.size
        exact .inr (by omega)
  · intro g _ e
    simp only [List.mem_cons, List.mem_append, Option.mem_toList]
    rcases e with rfl | e
    · exact .inl rfl
    · exact .inr (.inr (.inr e))

set_option maxRecDepth 100000 in
set_option maxHeartbeats 4000000 in
theorem sto_snapshot {P : Nat → Prop} {w : World} {s d : Nat} {X : Sto} {O : List Nat} (h : StoA P w s d X O) (hdd : isDead X.life X.disk = false) (hfew : X.pins.length < 16) :
    Calls Tryz.prog 14 #[.pointer (some ⟨s, 0, none⟩)] w fun e w' => ∃ p a mb, e = .returned (.tuple #[.pointer (some ⟨p, 0, none⟩), .int .i64 0]) ∧ SnapAt w' p s a mb X.now ∧ StoPost P w s d X.pinned O w' := by
  obtain ⟨Sd, T, a, mb, pv, pins, nv, gv, h1, rfl⟩ := h
  obtain ⟨A, c, rfl, _⟩ := own_slice h1.hpins.own
  have HH := Lib.hid h1
  have HDD := Lib.hid (dead_calls h1.hs h1.disk)
  rw [hdd] at HDD
  have hlen : pins.length < 16 := by rw [h1.hpins.len]; exact hfew
  have hlt : decide (16 ≤ (pins.length : Int)) = false := by simp; omega
  obtain ⟨iw, hiw, hz0, hz1, hz2⟩ := info_parts Tryz.infoSnap
  clear hdd hfew h1
  go_enter Tryz.func14, Tryz.ntmps14
  go_wp2_with (first | (at_builtin; refine wpList_append_lies _ rfl _ _ 37 rfl 0 31 iw (.pointer none) 1 8 Tryz.underlying37 hiw hz0 hz1 hz2 rfl (by decide) _ _ _ rfl ((H1.out.hpins.own.alloc _).alloc _) ⟨w1.heap.size + 1, 0, none⟩ 1 1 [.pointer (some ⟨w1.heap.size, 0, none⟩)] rfl rfl ?c1 ?c2 (by decide) ?c3 ?c4 ?c5 (w1.heap.size + 2) ?c8 ?_) | (go_at_call 60; refine HDD.out.mono ?_; rintro e w1 ⟨rfl, nq, hw1⟩; have HB1 : Hid (Below w.heap.size w w1) := (by show Below w.heap.size w w1; rw [hw1]; exact (Below.refl _ w).drewN_ nq); clear hw1; have H1 := Lib.hid (HH.out.keeps (Keeps.of_below (F := fun _ => False) HB1.out) (Alien.none P w _)); have c3 : w1.cell? ⟨s, 3, none⟩ = some (.slice A pins.length c) := H1.out.hs.cell 3; have c2 : w1.cell? ⟨s, 2, none⟩ = some (.pointer (some ⟨a, 0, none⟩)) := H1.out.hs.cell 2; have c3a : ∀ o, (w1.alloc o).cell? ⟨s, 3, none⟩ = some (.slice A pins.length c) := fun o => (Blk.alloc H1.out.hs o).cell 3))
  case c1 =>
    have := cell_one_new (w1.alloc (.cells #[.pointer (some ⟨s, 0, none⟩), .pointer (some ⟨a, 0, none⟩)] 103)) (.pointer (some ⟨w1.heap.size, 0, none⟩)) 31
    rw [World.size_alloc] at this
    exact this
  case c2 => simp [Value.oneCell']
  case c3 => unfold maxLen; omega
  case c4 => omega
  case c5 => simp
  case c8 => simp
  intro gg cap2 w3 hown3 hgrow3 hat3 _
  have hso : (Value.slice A pins.length c).ownBlock ≠ some s := own_blk_ne H1.out.hpins.own H1.out.hs (by decide)
  have B3 := ((Blk.alloc H1.out.hs (.cells #[.pointer (some ⟨s, 0, none⟩), .pointer (some ⟨a, 0, none⟩)] 103)).alloc (.cells #[.pointer (some ⟨w1.heap.size, 0, none⟩)] 31)).grown hgrow3 hso
  have q3 := (B3.at1 3 _ rfl).1
  have f3 := B3.frozen 3
  have HB2 := Lib.hid ((HB1.out.alloc HB1.out.size (.cells #[.pointer (some ⟨s, 0, none⟩), .pointer (some ⟨a, 0, none⟩)] 103)).alloc (by simp; have := HB1.out.size; omega) (.cells #[.pointer (some ⟨w1.heap.size, 0, none⟩)] 31))
  have HOWN := Lib.hid hown3
  have HGR := Lib.hid hgrow3
  have HAT := Lib.hid hat3
  clear hown3 hgrow3 hat3 hso B3
  go_wp2
  go_ret2
  refine ⟨_, _, _, rfl, snap_end HH.out HB2.out ((Blk.new w1 _ _).alloc _) HOWN.out HGR.out ?_⟩
  rcases HAT.out with h | h
  · exact .inl (by rw [h]; rfl)
  · exact .inr ⟨gg, rfl, by simp; omega⟩

set_option maxRecDepth 100000 in
set_option maxHeartbeats 4000000 in
theorem snap_ready {P : Nat → Prop} {w : World} {s d : Nat} {X : Sto} {O : List Nat} (h : StoA P w s d X O) {p a mb : Nat} {st : St} (hp : SnapAt w p s a mb st) :
    Calls Tryz.prog 106 #[.pointer (some ⟨p, 0, none⟩)] w fun e w' => e = .returned (.int .i64 (if isDead X.life X.disk then 50 else 0)) ∧ ∃ n, w' = w.drewN n := by
  obtain ⟨Sd, T, a', mb', pv, pins, nv, gv, h1, rfl⟩ := h
  have HDD := Lib.hid (dead_calls h1.hs h1.disk)
  have c0 : w.cell? ⟨p, 0, none⟩ = some (.pointer (some ⟨s, 0, none⟩)) := hp.1.cell 0
  have c1 : w.cell? ⟨p, 1, none⟩ = some (.pointer (some ⟨a, 0, none⟩)) := hp.1.cell 1
  clear hp h1
  cases hdd : isDead X.life X.disk
  all_goals
    rw [hdd] at HDD
    clear hdd
    go_enter Tryz.func106, Tryz.ntmps106
    go_wp2_with (go_at_call 60; refine HDD.out.mono ?_; rintro e w1 ⟨rfl, nq, rfl⟩)
    go_ret
    exact ⟨rfl, _, rfl⟩

set_option maxRecDepth 100000 in
set_option maxHeartbeats 4000000 in
theorem snap_get {P : Nat → Prop} {w : World} {s d : Nat} {X : Sto} {O : List Nat} (h : StoA P w s d X O) {p a mb : Nat} {st : St} (hp : SnapAt w p s a mb st) (hok : StOk X.disk.blocks.length st) (hpen : X.disk.pending.length ≤ 1000000000) (key : ByteArray) (hk : key.size ≤ maxLen) :
    Calls Tryz.prog 63 #[.pointer (some ⟨p, 0, none⟩), .string key] w (FetchPost w (getOf X.life X.disk st.places key.data.toList)) := by
  have HR := Lib.hid (snap_ready h hp)
  have HP := Lib.hid hp
  obtain ⟨R, hR⟩ : ∃ R, R = getOf X.life X.disk st.places key.data.toList := ⟨_, rfl⟩
  rw [← hR]
  cases hdd : isDead X.life X.disk
  · have e1 : R = X.disk.fetch st.places key.data.toList := by rw [hR]; unfold getOf; rw [hdd]; rfl
    have HF : Hid (∀ w1, Below w.heap.size w w1 → Calls Tryz.prog 103 #[.pointer (some ⟨s, 0, none⟩), .pointer (some ⟨a, 0, none⟩), .string key] w1 (FetchPost w1 R)) := by
      show ∀ w1, _
      intro w1 hb
      rw [e1]
      obtain ⟨Sd, T, a', mb', pv, pins, nv, gv, h1, rfl⟩ := h
      exact fetch_calls (Blk.below h1.hs hb (Blk.lt h1.hs)) (h1.disk.below hb) (hp.2.below hb) hok (isDead_up hdd) hpen key hk
    rw [hdd] at HR
    clear hR hdd e1 hp hok h
    go_enter Tryz.func63, Tryz.ntmps63
    go_wp2_with (go_at_call 106; refine HR.out.mono ?_; rintro e w1 ⟨rfl, nq, hw1⟩; have HB1 : Hid (Below w.heap.size w w1) := (by show Below w.heap.size w w1; rw [hw1]; exact (Below.refl _ w).drewN_ nq); clear hw1; have HP1 := Lib.hid (HP.out.below HB1.out); have c0 : w1.cell? ⟨p, 0, none⟩ = some (.pointer (some ⟨s, 0, none⟩)) := HP1.out.1.cell 0; have c1 : w1.cell? ⟨p, 1, none⟩ = some (.pointer (some ⟨a, 0, none⟩)) := HP1.out.1.cell 1)
    go_region_held3 (fun w' => w'.cell? ⟨p, 0, none⟩ = some (.pointer (some ⟨s, 0, none⟩)) ∧ w'.cell? ⟨p, 1, none⟩ = some (.pointer (some ⟨a, 0, none⟩))) (go_keep)
      ((go_at_call 103; refine (HF.out w1.drew HB1.out.drew).mono ?_; rintro e w2 ⟨v, rfl, hg, hb2⟩; have g0 : w2.cell? ⟨p, 0, none⟩ = some (.pointer (some ⟨s, 0, none⟩)) := (hb2.cell (p := ⟨p, 0, none⟩) HP1.out.1.lt).trans c0; have g1 : w2.cell? ⟨p, 1, none⟩ = some (.pointer (some ⟨a, 0, none⟩)) := (hb2.cell (p := ⟨p, 1, none⟩) HP1.out.1.lt).trans c1))
    all_goals
      have HG := Lib.hid hg
      have HB2 := Lib.hid hb2
      clear hg hb2 g0 g1
      go_wp2
      go_ret2
      exact ⟨v, rfl, HG.out.imp id (fun h => h.mono fun g hg => Nat.le_trans HB1.out.size hg), HB1.out.trans ((below_drew HB2.out).mono HB1.out.size)⟩
  · have e1 : R = (50, []) := by rw [hR]; unfold getOf; rw [hdd]; rfl
    rw [hdd] at HR
    rw [e1]
    clear hR hdd e1 h hp hok
    go_enter Tryz.func63, Tryz.ntmps63
    go_wp2_with (go_at_call 106; refine HR.out.mono ?_; rintro e w1 ⟨rfl, nq, hw1⟩; have HB1 : Hid (Below w.heap.size w w1) := (by show Below w.heap.size w w1; rw [hw1]; exact (Below.refl _ w).drewN_ nq); clear hw1)
    go_ret2
    exact ⟨_, rfl, .inl ⟨rfl, rfl⟩, HB1.out⟩

end Go.Proofs.YtbgiklkpinflaaaGreat

namespace Go.Proofs.YtbgiklkpinflaaaGreat
open Go.RowKit Go.Shelf Go.Maps
attribute [local go_sem ↓] Go.wp_at_zero Go.wp_at_succ

/-- As StoA, the snapshots named. -/
def StoN (P : Nat → Prop) (w : World) (s d : Nat) (X : Sto) (Q : List PinPlace) (O : List Nat) : Prop :=
  ∃ Sd T a mb pv nv gv, StoParts P w s d X Sd T a mb pv Q nv gv ∧ O = s :: (Sd ++ (T ++ pv.ownBlock.toList))
def StoNPost (P : Nat → Prop) (w : World) (s d : Nat) (X : Sto) (Q : List PinPlace) (O : List Nat) (w' : World) : Prop :=
  ∃ O', StoN P w' s d X Q O' ∧ (∀ k ∈ O', k ∈ O ∨ w.heap.size ≤ k) ∧ Keeps (· ∈ O) w w'
theorem StoParts.n_ {P : Nat → Prop} {w : World} {s d : Nat} {X : Sto} {Sd T : List Nat} {a mb : Nat} {pv nv gv : Value} {pins : List PinPlace} (h : StoParts P w s d X Sd T a mb pv pins nv gv) : StoN P w s d X pins (s :: (Sd ++ (T ++ pv.ownBlock.toList))) := ⟨Sd, T, a, mb, pv, nv, gv, h, rfl⟩
section
variable {P F : Nat → Prop} {w w' : World} {s d : Nat} {X : Sto} {Q : List PinPlace} {O : List Nat}
theorem StoN.a_ (h : StoN P w s d X Q O) : StoA P w s d X O := by
  obtain ⟨Sd, T, a, mb, pv, nv, gv, h1, h2⟩ := h
  exact ⟨Sd, T, a, mb, pv, Q, nv, gv, h1, h2⟩
theorem StoA.n_ (h : StoA P w s d X O) : ∃ Q, StoN P w s d X Q O := by
  obtain ⟨Sd, T, a, mb, pv, Q, nv, gv, h1, h2⟩ := h
  exact ⟨Q, Sd, T, a, mb, pv, nv, gv, h1, h2⟩
theorem StoN.keeps (h : StoN P w s d X Q O) (k : Keeps F w w') (hF : Alien P F w O) : StoN P w' s d X Q O := by
  obtain ⟨Sd, T, a, mb, pv, nv, gv, h1, rfl⟩ := h
  exact ⟨Sd, T, a, mb, pv, nv, gv, h1.keeps k hF, rfl⟩
theorem StoN.below (h : StoN P w s d X Q O) (hb : Below w.heap.size w w') : StoN P w' s d X Q O := h.keeps (Keeps.of_below (F := fun _ => False) hb) (Alien.none P w O)
theorem StoN.post (h : StoN P w s d X Q O) (hb : Below w.heap.size w w') : StoNPost P w s d X Q O w' := ⟨O, h.below hb, fun _ hk => .inl hk, Keeps.of_below hb⟩
/-- A snapshot that the store has. -/
theorem StoN.snap (h : StoN P w s d X Q O) {i : Nat} {q : PinPlace} {st : St} (hq : Q[i]? = some q) (hs : X.pins[i]? = some st) : SnapAt w q.1 s q.2.1 q.2.2 st := by
  obtain ⟨Sd, T, a, mb, pv, nv, gv, h1, rfl⟩ := h
  exact h1.hpins.pat i q st hq hs
theorem StoN.qlen (h : StoN P w s d X Q O) : Q.length = X.pins.length := by
  obtain ⟨Sd, T, a, mb, pv, nv, gv, h1, rfl⟩ := h
  exact h1.hpins.len
end

theorem ston_begin {P : Nat → Prop} {w : World} {s d : Nat} {X : Sto} {Q0 : List PinPlace} {O : List Nat} (h : StoN P w s d X Q0 O) (hdd : isDead X.life X.disk = false) (hop : X.opened = false) :
    Calls Tryz.prog 32 #[.pointer (some ⟨s, 0, none⟩)] w fun e w' => e = .returned (.int .i64 0) ∧ StoNPost P w s d X.begun Q0 O w' := by
  obtain ⟨Sd, T, a, mb, pv, nv, gv, h1, rfl⟩ := h
  revert h1
  obtain ⟨pins, hpq⟩ : ∃ pins, pins = Q0 := ⟨_, rfl⟩
  rw [← hpq]
  intro h1
  have hs := h1.hs
  rw [hop] at hs
  refine (begin_yes hs h1.disk hdd).mono ?_
  rintro e w' ⟨rfl, b1, b2, b3, k⟩
  have hF : ∀ g, g = s → g ∈ s :: (Sd ++ T) := fun g e => by simp [e]
  obtain ⟨r1, r2⟩ := h1.rest k hF
  have hsz : ∀ M b, MapAt w b M → b ∉ [w.heap.size, w.heap.size + 1] := fun M b hM => by
    have := hM.lt
    simp only [List.mem_cons, List.not_mem_nil, or_false, not_or]
    omega
  refine ⟨rfl, _, StoParts.n_ (X := X.begun) (T := [w.heap.size, w.heap.size + 1]) ⟨b1, h1.disk_ k (fun g e => by simp [e]), r1, r2, .inr ⟨rfl, _, _, rfl, rfl, rfl, by omega, ⟨[], b2, rfl, by simp⟩, b3⟩, ?_, ?_⟩, ?_, k.weaken fun g _ e => by simp [e]⟩
  · obtain ⟨_, _, _, l, hM, _⟩ := h1.now
    exact hsz _ _ hM
  · intro q hq
    obtain ⟨i, hi⟩ := List.getElem?_of_mem hq
    have hil : i < X.pins.length := by rw [← h1.hpins.len]; exact (List.getElem?_eq_some_iff.1 hi).1
    obtain ⟨_, _, _, _, l, hM, _⟩ := h1.hpins.pat i q X.pins[i] hi (List.getElem?_eq_getElem hil)
    exact hsz _ _ hM
  · intro k hk
    simp only [List.mem_cons, List.mem_append, List.not_mem_nil, or_false, false_or] at hk ⊢
    rcases hk with h | h | (h | h) | h
    · exact .inl (.inl h)
    · exact .inl (.inr (.inl h))
    · exact .inr (by omega)
    · exact .inr (by omega)
    · exact .inl (.inr (.inr (.inr h)))
theorem ston_put {P Q : Nat → Prop} {w : World} {s d n : Nat} {X : Sto} {Q0 : List PinPlace} {O : List Nat} (h : StoN P w s d X Q0 O) (hdd : isDead X.life X.disk = false) (hop : X.opened = true) (hok : StOk n X.now) (hsn : Srt X.notes) (hln : X.notes.length ≤ 1000) (hlg : X.gone.length ≤ 1000)
    (key : ByteArray) (hk0 : 0 < key.size) (hk1 : key.size ≤ 64) (v : Value) (l : List UInt8) (hv : BytesAt Q w v l) (hl : l.length ≤ 65536)
    (hroom : X.hasKey key.data.toList = true ∨ (X.now.places.length : Int) - X.gone.length + newNotes X.now.places X.notes < 512) :
    Calls Tryz.prog 49 #[.pointer (some ⟨s, 0, none⟩), .string key, v] w fun e w' => e = .returned (.int .i64 0) ∧ StoNPost P w s d (X.noted key.data.toList l) Q0 O w' := by
  obtain ⟨Sd, T, a, mb, pv, nv, gv, h1, rfl⟩ := h
  revert h1
  obtain ⟨pins, hpq⟩ : ∃ pins, pins = Q0 := ⟨_, rfl⟩
  rw [← hpq]
  intro h1
  have hs := h1.hs
  rcases h1.trans with ⟨h2, _⟩ | ⟨h2, nb, gb, rfl, rfl, rfl, hng, ⟨L, hN, hL, hP⟩, hG⟩
  · rw [h2] at hop
    cases hop
  rw [h2] at hs
  have hg2 : (mget (mmap (fun x : Value × List UInt8 => x.1) L) key.data.toList).isSome = (mget X.notes key.data.toList).isSome := by
    rw [hL, mget_mmap, mget_mmap, Option.isSome_map, Option.isSome_map]
  have hS2 : Srt (mmap (fun x : Value × List UInt8 => x.1) L) := by
    have h3 : (X.notes.map (·.1)) = (mmap (fun x : Value × List UInt8 => x.1) L).map (·.1) := by
      rw [hL]
      simp [mmap]
    unfold Srt at hsn ⊢
    have h4 := List.pairwise_map.2 hsn
    rw [h3] at h4
    exact List.pairwise_map.1 h4
  refine (put_yes (n := n) hs h1.disk h1.now hok hN hG hng hS2 (by rw [mmap_length]; rw [hL, mmap_length] at hln; exact hln) hlg (fun x hx => ?_) hdd key hk0 hk1 v l hv hl ?_).mono ?_
  · obtain ⟨y, hy, rfl⟩ := List.mem_map.1 hx
    obtain ⟨g, cap, cur, hv, _⟩ := hP y hy
    exact ⟨_, _, _, hv⟩
  · rw [hg2, newNotes_map, ← hL]
    exact hroom
  · rintro e w' ⟨rfl, nv, b1, b2, b3, k⟩
    have hF : ∀ g, (g = nb ∨ g = gb) → g ∈ s :: (Sd ++ [nb, gb]) := fun g e => by rcases e with rfl | rfl <;> simp
    obtain ⟨r1, r2⟩ := h1.rest k hF
    have hk' : Keeps (· ∈ s :: (Sd ++ ([nb, gb] ++ pv.ownBlock.toList))) w w' := k.weaken fun g _ e => by rcases e with rfl | rfl <;> simp
    have hsn : Blk w' s _ _ := Blk.keeps hs k (fun e => by
      rcases e with rfl | rfl
      · exact hN.not_blk hs
      · exact MapAt.not_blk hG hs)
    refine ⟨rfl, _, StoParts.n_ (X := X.noted key.data.toList l) (T := [nb, gb]) ⟨by rw [show (X.noted key.data.toList l).opened = true from h2]; exact hsn, h1.disk_ k (fun g e => by rcases e with rfl | rfl <;> simp), r1, r2, .inr ⟨h2, nb, gb, rfl, rfl, rfl, hng, ⟨mput L key.data.toList (nv, l), ?_, ?_, ?_⟩, b3⟩, h1.mbT, h1.pinT⟩, fun k hk => .inl hk, hk'⟩
    · rw [mmap_mput]
      exact b2
    · show mput X.notes _ _ = _
      rw [mmap_mput, hL]
    · intro x hx
      rcases mput_mem hx with rfl | ⟨hx, _⟩
      · exact b1.mono fun g hg => DiskAt.fresh_ h1.disk g hg
      · exact (hP x hx).keeps k fun g cs e _ hb => by
          rcases e with rfl | rfl
          · exact hN.not_blk hb
          · exact MapAt.not_blk hG hb
theorem ston_commit {P : Nat → Prop} {w : World} {s d : Nat} {X : Sto} {Q0 : List PinPlace} {O : List Nat} (h : StoN P w s d X Q0 O) (hdd : isDead X.life X.disk = false) (hop : X.opened = true)
    (hok : StOk X.disk.blocks.length X.now) (hoks : ∀ x ∈ X.pins, StOk X.disk.blocks.length x) (hpn : X.pins.length ≤ 1000) (hsn : Srt X.notes) (hsg : Srt X.gone) (hkn : ∀ x ∈ X.notes, x.1.length ≤ 64 ∧ x.2.length ≤ 65536) (hln : X.notes.length ≤ 512)
    (hok' : ∀ st', X.now.next X.notes X.gone (freeOf X.disk.blocks.length (X.now :: X.pins)) = some st' → StOk X.disk.blocks.length st') (hsm : Small X.disk 3000) :
    Calls Tryz.prog 21 #[.pointer (some ⟨s, 0, none⟩)] w fun e w' => e = .returned (.int .i64 X.commit.1) ∧ StoNPost P w s d X.commit.2 Q0 O w' := by
  obtain ⟨Sd, T, a, mb, pv, nv, gv, h1, rfl⟩ := h
  revert h1
  obtain ⟨pins, hpq⟩ : ∃ pins, pins = Q0 := ⟨_, rfl⟩
  rw [← hpq]
  intro h1
  have hs := h1.hs
  rcases h1.trans with ⟨h2, _⟩ | ⟨h2, nb, gb, rfl, rfl, rfl, hng, hN, hG⟩
  · rw [h2] at hop
    cases hop
  rw [h2] at hs
  refine (commit_calls hs h1.disk h1.now h1.hpins hN.w hG hok hoks (by rw [h1.hpins.len]; exact hpn) hsn hsg hkn hln hok' hdd hsm).mono ?_
  intro e w' hC
  unfold Sto.commit
  obtain ⟨C, hCe⟩ : ∃ C, C = X.disk.commit X.now X.notes X.gone X.pins := ⟨_, rfl⟩
  rw [← hCe] at hC ⊢
  clear hCe
  obtain ⟨c, D', R⟩ := C
  obtain ⟨rfl, ⟨S', hD', hS'⟩, k, hR⟩ := hC
  have hF : ∀ g, (g = s ∨ g ∈ Sd) → g ∈ s :: (Sd ++ [nb, gb]) := fun g e => by rcases e with rfl | e <;> simp [*]
  obtain ⟨r1, r2⟩ := h1.rest k hF
  have hk' : Keeps (· ∈ s :: (Sd ++ ([nb, gb] ++ pv.ownBlock.toList))) w w' := k.weaken fun g _ e => by rcases e with rfl | e <;> simp [*]
  rcases hR with ⟨hR, hS⟩ | ⟨st', a', mb', hR, hS, hst, ha', hmb'⟩
  · have hR : R = none := hR
    subst hR
    have hnf : ∀ g M, MapAt w g M → ¬ (g = s ∨ g ∈ Sd) := fun g M hM e => by
      rcases e with rfl | e
      · exact hM.not_blk hs
      · obtain ⟨t, cs, hb, _⟩ := h1.disk.lt _ e
        exact hM.not_blk hb
    have hN' : NotesP P w' nb X.notes := hN.keeps k (fun g cs e _ hb => by
      rcases e with rfl | e
      · exact absurd (hb.det hs).2 (by decide)
      · exact h1.disk.no (by decide) (by decide) (by decide) e hb) (by obtain ⟨L, hM, _⟩ := hN; exact hnf _ _ hM)
    refine ⟨rfl, _, StoParts.n_ (X := { X with disk := D' }) (T := [nb, gb]) (Sd := S') ⟨by rw [show ({ X with disk := D' } : Sto).opened = true from h2]; exact hS, hD', r1, r2, .inr ⟨h2, nb, gb, rfl, rfl, rfl, hng, hN', MapAt.keeps hG k (hnf _ _ hG)⟩, h1.mbT, h1.pinT⟩, ?_, hk'⟩
    intro i hi
    simp only [List.mem_cons, List.mem_append] at hi ⊢
    rcases hi with h | h | h | h
    · exact .inl (.inl h)
    · rcases hS' i h with h | h
      · exact .inl (.inr (.inl h))
      · exact .inr h
    · exact .inl (.inr (.inr (.inl h)))
    · exact .inl (.inr (.inr (.inr h)))
  · have hR : R = some st' := hR
    subst hR
    refine ⟨rfl, _, StoParts.n_ (X := { X with disk := D', now := st', opened := false, notes := [], gone := [] }) (T := []) (Sd := S') ⟨hS, hD', hst, r2, .inl ⟨rfl, rfl, rfl, rfl⟩, by simp, by simp⟩, ?_, hk'⟩
    intro i hi
    simp only [List.mem_cons, List.mem_append, List.not_mem_nil, false_or] at hi ⊢
    rcases hi with h | h | h
    · exact .inl (.inl h)
    · rcases hS' i h with h | h
      · exact .inl (.inr (.inl h))
      · exact .inr h
    · exact .inl (.inr (.inr (.inr h)))
theorem snapn_end {P : Nat → Prop} {w w2 w3 : World} {s d : Nat} {X : Sto} {Sd T : List Nat} {a mb : Nat} {pv nv gv sv3 : Value} {pins : List PinPlace} (h : StoParts P w s d X Sd T a mb pv pins nv gv) (hB : Below w.heap.size w w2) {p : Nat}
    (hp : Blk w2 p 103 #[.pointer (some ⟨s, 0, none⟩), .pointer (some ⟨a, 0, none⟩)]) (hown : w3.ownsRow 0 31 1 sv3 (pins.length + 1) (ptrs pins ++ [.pointer (some ⟨p, 0, none⟩)])) (hgrow : w2.grownBy w3 pv.ownBlock)
    (hat : sv3.ownBlock = pv.ownBlock ∨ ∃ g, sv3.ownBlock = some g ∧ w2.heap.size ≤ g) :
    SnapAt (w3.setCell ⟨s, 3, none⟩ sv3) p s a mb X.now ∧ StoNPost P w s d X.pinned (pins ++ [(p, a, mb)]) (s :: (Sd ++ (T ++ pv.ownBlock.toList))) (w3.setCell ⟨s, 3, none⟩ sv3) := by
  have hso : pv.ownBlock ≠ some s := own_blk_ne h.hpins.own h.hs (by decide)
  have k : Keeps (fun g => g = s ∨ pv.ownBlock = some g) w (w3.setCell ⟨s, 3, none⟩ sv3) :=
    ((Keeps.of_below (F := fun g => g = s ∨ pv.ownBlock = some g) hB).grown hgrow (fun g hr _ => .inr hr)).setCell (p := ⟨s, 3, none⟩) (fun _ => .inl rfl) sv3
  have hblk : ∀ g, (g = s ∨ pv.ownBlock = some g) → ∃ t cs, Blk w g t cs ∧ (t = 100 ∨ t = 31) := fun g hg => by
    rcases hg with rfl | hg
    · exact ⟨_, _, h.hs, .inl rfl⟩
    · obtain ⟨cs, hb⟩ := own_is_blk h.hpins.own hg
      exact ⟨_, cs, hb, .inr rfl⟩
  have hT : ∀ g t cs, (g = s ∨ pv.ownBlock = some g) → Blk w g t cs → t = 100 ∨ t = 31 := fun g t cs hg hb => by
    obtain ⟨t', cs', hb', ht⟩ := hblk g hg
    rw [(hb.det hb').2]
    exact ht
  have hU : ∀ g cs, (g = s ∨ pv.ownBlock = some g) → P g → Blk w g 5 cs → False := fun g cs hg _ hb => by
    rcases hT g _ cs hg hb with h | h <;> exact absurd h (by decide)
  have hM : ∀ b M, MapAt w b M → ¬ (b = s ∨ pv.ownBlock = some b) := fun b M hM hg => by
    obtain ⟨t, cs, hb, _⟩ := hblk b hg
    exact hM.not_blk hb
  have hSt : ∀ a mb st, StateAt w a mb st → StateAt (w3.setCell ⟨s, 3, none⟩ sv3) a mb st := fun a mb st hst => by
    refine hst.keeps k (fun g t cs hg hb => ?_) ?_
    · rcases hT g t cs hg hb with h | h
      all_goals
        subst h
        exact ⟨by decide, by decide⟩
    · obtain ⟨_, _, _, l, hm, _⟩ := hst
      exact hM _ _ hm
  have hs3 : Blk w3 s 100 _ := (Blk.below h.hs hB (Blk.lt h.hs)).grown hgrow hso
  have hps : p ≠ s := by
    rintro rfl
    exact absurd (hp.det (Blk.below h.hs hB (Blk.lt h.hs))).2 (by decide)
  have hpo : pv.ownBlock ≠ some p := fun e => by
    obtain ⟨cs, hb⟩ := own_is_blk h.hpins.own e
    exact absurd (hp.det (hb.below hB hb.lt)).2 (by decide)
  have hp4 : Blk (w3.setCell ⟨s, 3, none⟩ sv3) p 103 #[.pointer (some ⟨s, 0, none⟩), .pointer (some ⟨a, 0, none⟩)] := (hp.grown hgrow hpo).far (p := ⟨s, 3, none⟩) hps sv3
  have hso3 : sv3.ownBlock ≠ some s := by
    rcases hat with e | ⟨g, e, hg⟩
    · rw [e]
      exact hso
    · rw [e]
      intro e2
      have e3 : g = s := by simpa using e2
      have := h.hs.lt
      have := hB.size
      omega
  refine ⟨⟨hp4, hSt _ _ _ h.now⟩, _, StoParts.n_ (X := X.pinned) (pins := pins ++ [(p, a, mb)]) ⟨hs3.set_ 3 sv3, h.disk.keeps k ?_ hU, hSt _ _ _ h.now, ⟨?_, ?_, ?_⟩, h.trans.keeps k hU ?_, h.mbT, ?_⟩, ?_, k.weaken ?_⟩
  · intro g hg e
    obtain ⟨t, cs, hb, ht⟩ := h.disk.lt g hg
    rcases hT g t cs e hb with e2 | e2
    all_goals
      subst e2
      rcases ht with h | h | h <;> exact absurd h (by decide)
  · have := ownsRow_keeps hown (Keeps.set1 w3 s 3 sv3) (fun g hg e => hso3 (by rw [hg, e]))
    rw [List.length_append]
    unfold ptrs
    rw [List.map_append]
    exact this
  · rw [List.length_append, h.hpins.len]
    simp [Sto.pinned]
  · intro i q st hq hst
    have hst : (X.pins ++ [X.now])[i]? = some st := hst
    rcases Nat.lt_or_ge i pins.length with hi | hi
    · rw [List.getElem?_append_left hi] at hq
      rw [List.getElem?_append_left (by rw [← h.hpins.len]; exact hi)] at hst
      obtain ⟨b1, b2⟩ := h.hpins.pat i q st hq hst
      refine ⟨b1.keeps k fun e => ?_, hSt _ _ _ b2⟩
      rcases hT _ _ _ e b1 with h | h <;> exact absurd h (by decide)
    · rw [List.getElem?_append_right hi] at hq
      rw [List.getElem?_append_right (by rw [← h.hpins.len]; exact hi)] at hst
      have hi0 : i - pins.length = 0 := by
        rcases Nat.eq_zero_or_pos (i - pins.length) with h0 | h0
        · exact h0
        · rw [List.getElem?_eq_none (by simp; omega)] at hq
          cases hq
      rw [hi0] at hq
      rw [← h.hpins.len, hi0] at hst
      simp at hq hst
      subst hq
      subst hst
      exact ⟨hp4, hSt _ _ _ h.now⟩
  · intro g hg e
    obtain ⟨M, hm⟩ := h.trans.maps hg
    exact hM _ _ hm e
  · intro q hq
    rcases List.mem_append.1 hq with hq | hq
    · exact h.pinT q hq
    · simp at hq
      subst hq
      exact h.mbT
  · intro i hi
    simp only [List.mem_cons, List.mem_append, Option.mem_toList] at hi ⊢
    rcases hi with h1 | h1 | h1 | h1
    · exact .inl (.inl h1)
    · exact .inl (.inr (.inl h1))
    · exact .inl (.inr (.inr (.inl h1)))
    · rcases hat with e | ⟨g, e, hg⟩
      · rw [e] at h1
        exact .inl (.inr (.inr (.inr h1)))
      · rw [e] at h1
        have e3 : g = i := by simpa using h1
        have := hB.size
        exact .inr (by omega)
  · intro g _ e
    simp only [List.mem_cons, List.mem_append, Option.mem_toList]
    rcases e with rfl | e
    · exact .inl rfl
    · exact .inr (.inr (.inr e))
set_option maxRecDepth 100000 in
set_option maxHeartbeats 4000000 in
theorem ston_snapshot {P : Nat → Prop} {w : World} {s d : Nat} {X : Sto} {Q0 : List PinPlace} {O : List Nat} (h : StoN P w s d X Q0 O) (hdd : isDead X.life X.disk = false) (hfew : X.pins.length < 16) :
    Calls Tryz.prog 14 #[.pointer (some ⟨s, 0, none⟩)] w fun e w' => ∃ p a mb, e = .returned (.tuple #[.pointer (some ⟨p, 0, none⟩), .int .i64 0]) ∧ SnapAt w' p s a mb X.now ∧ w.heap.size ≤ p ∧ StoNPost P w s d X.pinned (Q0 ++ [(p, a, mb)]) O w' := by
  obtain ⟨Sd, T, a, mb, pv, nv, gv, h1, rfl⟩ := h
  revert h1
  obtain ⟨pins, hpq⟩ : ∃ pins, pins = Q0 := ⟨_, rfl⟩
  rw [← hpq]
  intro h1
  obtain ⟨A, c, rfl, _⟩ := own_slice h1.hpins.own
  have HH := Lib.hid h1
  have HDD := Lib.hid (dead_calls h1.hs h1.disk)
  rw [hdd] at HDD
  have hlen : pins.length < 16 := by rw [h1.hpins.len]; exact hfew
  have hlt : decide (16 ≤ (pins.length : Int)) = false := by simp; omega
  obtain ⟨iw, hiw, hz0, hz1, hz2⟩ := info_parts Tryz.infoSnap
  clear hdd hfew h1 hpq
  go_enter Tryz.func14, Tryz.ntmps14
  go_wp2_with (first | (at_builtin; refine wpList_append_lies _ rfl _ _ 37 rfl 0 31 iw (.pointer none) 1 8 Tryz.underlying37 hiw hz0 hz1 hz2 rfl (by decide) _ _ _ rfl ((H1.out.hpins.own.alloc _).alloc _) ⟨w1.heap.size + 1, 0, none⟩ 1 1 [.pointer (some ⟨w1.heap.size, 0, none⟩)] rfl rfl ?c1 ?c2 (by decide) ?c3 ?c4 ?c5 (w1.heap.size + 2) ?c8 ?_) | (go_at_call 60; refine HDD.out.mono ?_; rintro e w1 ⟨rfl, nq, hw1⟩; have HB1 : Hid (Below w.heap.size w w1) := (by show Below w.heap.size w w1; rw [hw1]; exact (Below.refl _ w).drewN_ nq); clear hw1; have H1 := Lib.hid (HH.out.keeps (Keeps.of_below (F := fun _ => False) HB1.out) (Alien.none P w _)); have c3 : w1.cell? ⟨s, 3, none⟩ = some (.slice A pins.length c) := H1.out.hs.cell 3; have c2 : w1.cell? ⟨s, 2, none⟩ = some (.pointer (some ⟨a, 0, none⟩)) := H1.out.hs.cell 2; have c3a : ∀ o, (w1.alloc o).cell? ⟨s, 3, none⟩ = some (.slice A pins.length c) := fun o => (Blk.alloc H1.out.hs o).cell 3))
  case c1 =>
    have := cell_one_new (w1.alloc (.cells #[.pointer (some ⟨s, 0, none⟩), .pointer (some ⟨a, 0, none⟩)] 103)) (.pointer (some ⟨w1.heap.size, 0, none⟩)) 31
    rw [World.size_alloc] at this
    exact this
  case c2 => simp [Value.oneCell']
  case c3 => unfold maxLen; omega
  case c4 => omega
  case c5 => simp
  case c8 => simp
  intro gg cap2 w3 hown3 hgrow3 hat3 _
  have hso : (Value.slice A pins.length c).ownBlock ≠ some s := own_blk_ne H1.out.hpins.own H1.out.hs (by decide)
  have B3 := ((Blk.alloc H1.out.hs (.cells #[.pointer (some ⟨s, 0, none⟩), .pointer (some ⟨a, 0, none⟩)] 103)).alloc (.cells #[.pointer (some ⟨w1.heap.size, 0, none⟩)] 31)).grown hgrow3 hso
  have q3 := (B3.at1 3 _ rfl).1
  have f3 := B3.frozen 3
  have HB2 := Lib.hid ((HB1.out.alloc HB1.out.size (.cells #[.pointer (some ⟨s, 0, none⟩), .pointer (some ⟨a, 0, none⟩)] 103)).alloc (by simp; have := HB1.out.size; omega) (.cells #[.pointer (some ⟨w1.heap.size, 0, none⟩)] 31))
  have HOWN := Lib.hid hown3
  have HGR := Lib.hid hgrow3
  have HAT := Lib.hid hat3
  clear hown3 hgrow3 hat3 hso B3
  go_wp2
  go_ret2
  have HE := snapn_end HH.out HB2.out ((Blk.new w1 _ _).alloc _) HOWN.out HGR.out ?_
  refine ⟨_, _, _, rfl, HE.1, HB1.out.size, HE.2⟩
  rcases HAT.out with h | h
  · exact .inl (by rw [h]; rfl)
  · exact .inr ⟨gg, rfl, by simp; omega⟩

end Go.Proofs.YtbgiklkpinflaaaGreat
