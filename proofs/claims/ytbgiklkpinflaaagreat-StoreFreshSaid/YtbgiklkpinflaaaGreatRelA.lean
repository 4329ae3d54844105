/- Release: the store's list of snapshots loses one. Release, of a store that lies in memory whole. -/
import Derived.Test.YtbgiklkpinflaaaGreatDamaged

namespace Go.Proofs.YtbgiklkpinflaaaGreat
open Go.RowKit Go.Shelf Go.Maps
attribute [local go_sem ↓] Go.wp_at_zero Go.wp_at_succ

/-- The closure: is it the one? -/
abbrev isit (cb : Nat) : Value := .func (.func 65) #[] #[.pointer (some ⟨cb, 0, none⟩)]
/-- The blocks ps hold snapshots. -/
def SnapsAt (w : World) (ps : List Nat) : Prop := ∀ q ∈ ps, ∃ cs, Blk w q 103 cs
theorem SnapsAt.keeps {F : Nat → Prop} {w w' : World} {ps : List Nat} (h : SnapsAt w ps) (k : Keeps F w w') (hF : ∀ g cs, F g → Blk w g 103 cs → False) : SnapsAt w' ps := fun q hq => by
  obtain ⟨cs, hb⟩ := h q hq
  exact ⟨cs, hb.keeps k fun hg => hF _ cs hg hb⟩
theorem Tryz.infoSn : (Tryz.prog.info? 103).map (fun i => i.size) = some 2 := by kernel_rfl
set_option maxRecDepth 100000 in
set_option maxHeartbeats 1000000 in
theorem rel1_calls (w : World) (q p cb : Nat) (hc : w.cell? ⟨cb, 0, none⟩ = some (.pointer (some ⟨p, 0, none⟩))) (hq : ∃ cs, Blk w q 103 cs) (hp : ∃ cs, Blk w p 103 cs) :
    Calls Tryz.prog 65 #[.pointer (some ⟨q, 0, none⟩), .pointer (some ⟨cb, 0, none⟩)] w fun e w' => e = .returned (.bool (decide (q = p))) ∧ w = w' := by
  obtain ⟨c1, h1⟩ := hq
  obtain ⟨c2, h2⟩ := hp
  have hi : ∃ j, Tryz.prog.info? 103 = some j ∧ j.size ≠ 0 := by
    have := Tryz.infoSn
    cases h : Tryz.prog.info? 103 with
    | none => rw [h] at this; cases this
    | some j =>
      rw [h] at this
      injection this with this
      have this : j.size = 2 := this
      exact ⟨j, rfl, by omega⟩
  obtain ⟨j, hj, hsz⟩ := hi
  by_cases he : q = p
  · subst he
    have hrun := run_eql_ptr_same (P := Tryz.prog) w ⟨q, 0, none⟩ Tryz.underlying31 hj
    have e1 : decide (q = q) = true := by simp
    rw [e1]
    go_enter Tryz.func65, Tryz.ntmps65
    go_wp2
    go_ret
    exact ⟨rfl, rfl⟩
  · have hrun := run_eql_ptr_other (P := Tryz.prog) w Tryz.underlying31 hj hsz (a := ⟨q, 0, none⟩) (b := ⟨p, 0, none⟩) (fun e => he (by injection e)) h1 h2
    have e1 : decide (q = p) = false := by simp [he]
    rw [e1]
    go_enter Tryz.func65, Tryz.ntmps65
    go_wp2
    go_ret
    exact ⟨rfl, rfl⟩

theorem nodup_inj {l : List Nat} (h : l.Nodup) {i j : Nat} (hi : i < l.length) (hj : j < l.length) (e : l[i] = l[j]) : i = j := by
  unfold List.Nodup at h
  rw [List.pairwise_iff_getElem] at h
  rcases Nat.lt_trichotomy i j with h1 | h1 | h1
  · exact absurd e (h i j hi hj h1)
  · exact h1
  · exact absurd e.symm (h j i hj hi h1)
def ptrN (ps : List Nat) : List Value := ps.map fun p => .pointer (some ⟨p, 0, none⟩)
/-- The row of snapshots. -/
def SnapRow (w : World) (g cap : Nat) (ps : List Nat) : Prop := ∃ cur : Array Value, Blk w g 31 cur ∧ cur.size = cap ∧ ∀ t (ht : t < ps.length), cur[t]? = some (.pointer (some ⟨ps[t], 0, none⟩))
theorem SnapRow.cell {w : World} {g cap : Nat} {ps : List Nat} (h : SnapRow w g cap ps) {t : Nat} (ht : t < ps.length) : w.cell? ⟨g, t, none⟩ = some (.pointer (some ⟨ps[t], 0, none⟩)) := by
  obtain ⟨cur, hb, _, hc⟩ := h
  exact (hb.cell t).trans (hc t ht)
theorem SnapRow.below {w w1 : World} {g cap : Nat} {ps : List Nat} (h : SnapRow w g cap ps) (hb : Below w.heap.size w w1) : SnapRow w1 g cap ps := by
  obtain ⟨cur, h1, h2⟩ := h
  exact ⟨cur, h1.below hb h1.lt, h2⟩
set_option maxRecDepth 100000 in
set_option maxHeartbeats 4000000 in
theorem index_snap (w : World) (g cap cb i p : Nat) (ps : List Nat) (hi : i < ps.length) (hp : ps[i] = p) (hn : ∀ j (hj : j < i), ps[j] ≠ p) (hl : ps.length ≤ 1000) (hr : SnapRow w g cap ps) (hs : SnapsAt w ps) (hc : w.cell? ⟨cb, 0, none⟩ = some (.pointer (some ⟨p, 0, none⟩))) :
    Calls Tryz.prog 107 #[.slice (some ⟨g, 0, none⟩) ps.length cap, isit cb] w fun e w' => e = .returned (.int .i64 (i : Int)) ∧ Below w.heap.size w w' := by
  have HR := Lib.hid hr
  have HS := Lib.hid hs
  have HN := Lib.hid hn
  have HP := Lib.hid hp
  clear hr hs hn hp
  go_enter Tryz.func107, Tryz.ntmps107
  go_wp2
  go_loopw [5, 8] (fun _ x wr => ∃ k : Nat, k ≤ i ∧ x = .int .i64 k ∧ Below w.heap.size w wr) (fun _ x _ => ps.length - (intOf x).toNat)
  case atStart => exact ⟨0, Nat.zero_le _, rfl, Below.refl _ _⟩
  case round =>
    obtain ⟨k, hk, rfl, hB⟩ := hrel
    have hkl : k < ps.length := by omega
    have tk : decide ((k : Int) < (ps.length : Int)) = true := by simp; omega
    have q0 : wr.cell? ⟨g, k, none⟩ = some (.pointer (some ⟨ps[k], 0, none⟩)) := (HR.out.below hB).cell hkl
    have qc : wr.cell? ⟨cb, 0, none⟩ = some (.pointer (some ⟨p, 0, none⟩)) := (hB.cell (World.block_lt_of_cell? w _ hc)).trans hc
    have hsn : SnapsAt wr ps := HS.out.keeps (F := fun _ => False) (Keeps.of_below hB) (fun _ _ h => h.elim)
    have HCC := Lib.hid (rel1_calls wr ps[k] p cb qc (hsn _ (List.getElem_mem hkl)) (hsn p (by rw [← HP.out]; exact List.getElem_mem hi)))
    have HB := Lib.hid hB
    by_cases hki : k = i
    · subst hki
      have e1 : decide (ps[k] = p) = true := by simp [HP.out]
      rw [e1] at HCC
      clear hB hsn e1
      go_wp2_with (go_at_call 65; refine HCC.out.mono ?_; rintro e w2 ⟨rfl, rfl⟩)
      go_ret
      exact ⟨rfl, HB.out⟩
    · have e1 : decide (ps[k] = p) = false := by simpa using HN.out k (by omega)
      rw [e1] at HCC
      clear hB hsn e1
      go_wp2_with (go_at_call 65; refine HCC.out.mono ?_; rintro e w2 ⟨rfl, rfl⟩)
      go_roundw
      case rel => exact ⟨k + 1, by omega, by go_num, HB.out⟩
      case measure => simp [intOf]; omega

/-- j of the row are looked at. -/
def Striking (w : World) (g cap : Nat) (ps : List Nat) (i j : Nat) (wr : World) : Prop :=
  (∃ cur : Array Value, Blk wr g 31 cur ∧ cur.size = cap ∧ (∀ t (ht : t < (ps.eraseIdx i).length), t < j - 1 → cur[t]? = some (.pointer (some ⟨(ps.eraseIdx i)[t], 0, none⟩))) ∧ ∀ t (ht : t < ps.length), j ≤ t → cur[t]? = some (.pointer (some ⟨ps[t], 0, none⟩))) ∧ Keeps (· = g) w wr
theorem Striking.start {w w1 : World} {g cap i : Nat} {ps : List Nat} (h : SnapRow w g cap ps) (hb : Below w.heap.size w w1) (hi : i < ps.length) : Striking w g cap ps i (i + 1) w1 := by
  obtain ⟨cur, h1, h2, h3⟩ := h
  refine ⟨⟨cur, h1.below hb h1.lt, h2, fun t ht htj => ?_, fun t ht _ => h3 t ht⟩, Keeps.of_below hb⟩
  rw [List.getElem_eraseIdx_of_lt (by omega) (by omega)]
  exact h3 t (by omega)
theorem Striking.step {w wr : World} {g cap i j : Nat} {ps : List Nat} (h : Striking w g cap ps i j wr) (hij : i < j) (hj : j < ps.length) (hc : ps.length ≤ cap) : Striking w g cap ps i (j + 1) (wr.setCell ⟨g, j - 1, none⟩ (.pointer (some ⟨ps[j], 0, none⟩))) := by
  obtain ⟨⟨cur, h1, h2, h3, h4⟩, k⟩ := h
  refine ⟨⟨_, h1.set_ (j - 1) _, by simpa using h2, fun t ht htj => ?_, fun t ht htj => ?_⟩, k.setCell (p := ⟨g, j - 1, none⟩) (fun _ => rfl) _⟩
  · by_cases e : t = j - 1
    · subst e
      rw [Array.getElem?_setIfInBounds_self_of_lt (by omega)]
      have e2 : (ps.eraseIdx i)[j - 1] = ps[j] := by
        rw [List.getElem_eraseIdx_of_ge (by omega) (by omega)]
        congr 1
        omega
      rw [e2]
    · rw [Array.getElem?_setIfInBounds_ne (by omega)]
      exact h3 t ht (by omega)
  · rw [Array.getElem?_setIfInBounds_ne (by omega)]
    exact h4 t ht (by omega)
theorem clear_snaps (w : World) (g o m c : Nat) (hm : 0 < m) (hc : ∀ j, j < m → (∃ v, w.cell? ⟨g, o + j, none⟩ = some v) ∧ w.frozen? ⟨g, o + j, none⟩ = false) :
    ∃ vs, ∀ ty : TypeId, (Builtin.clear_ #[37] ty #[.slice (some ⟨g, o, none⟩) m c]).run Tryz.prog w = .ok (.tuple #[]) (w.setCells g o vs) := by
  refine ⟨(Builtin.zeroCells (Value.pointer none).cells m).toList, fun ty => ?_⟩
  have hl : (Builtin.zeroCells (Value.pointer none).cells m).toList.length = m := by
    simp [Builtin.zeroCells, Value.cells]
  have h1 : ∀ v ∈ (Builtin.zeroCells (Value.pointer none).cells m).toList, v.oneCell' = true := by
    intro v hv
    simp only [Builtin.zeroCells, Value.cells, Array.toList_map, List.mem_map] at hv
    obtain ⟨k, _, rfl⟩ := hv
    simp [Value.oneCell', Nat.mod_one]
  have hst := run_storeCells_cells (P := Tryz.prog) g o (Builtin.zeroCells (Value.pointer none).cells m).toList 0 w (fun j hj => by obtain ⟨⟨v, e⟩, _⟩ := hc j (by omega); simp [e]) (fun j hj => (hc j (by omega)).2) h1
  simp only [Nat.add_zero] at hst
  have hv := Tryz.zeroValue31
  have ht := Tryz.underlying37
  obtain ⟨m, rfl⟩ : ∃ k, m = k + 1 := ⟨m - 1, by omega⟩
  simp [Builtin.clear_, run_underlying ht, hv, hst]
set_option maxRecDepth 100000 in
set_option maxHeartbeats 4000000 in
theorem delete_snap (w : World) (g cap cb i p : Nat) (ps : List Nat) (hi : i < ps.length) (hp : ps[i] = p) (hnd : ps.Nodup) (hl : ps.length ≤ 1000) (hcap : ps.length ≤ cap) (hr : SnapRow w g cap ps) (hs : SnapsAt w ps) (hc : w.cell? ⟨cb, 0, none⟩ = some (.pointer (some ⟨p, 0, none⟩))) (hcg : cb ≠ g) :
    Calls Tryz.prog 64 #[.slice (some ⟨g, 0, none⟩) ps.length cap, isit cb] w fun e w' => e = .returned (.slice (some ⟨g, 0, none⟩) (ps.length - 1) cap) ∧ SnapRow w' g cap (ps.eraseIdx i) ∧ Keeps (· = g) w w' := by
  have hne : ∀ j (hj : j < ps.length), j ≠ i → ps[j] ≠ p := fun j hj h e => h (nodup_inj hnd hj hi (e.trans hp.symm))
  have HI := Lib.hid (index_snap w g cap cb i p ps hi hp (fun j hj => hne j (by omega) (by omega)) hl hr hs hc)
  have HST := Lib.hid (fun w1 (hb : Below w.heap.size w w1) => Striking.start hr hb hi)
  have HBG : Hid (∃ cs, Blk w g 31 cs) := (by obtain ⟨cur, hb, _⟩ := hr; exact ⟨cur, hb⟩ : ∃ cs, Blk w g 31 cs)
  have HNE := Lib.hid hne
  have HS := Lib.hid hs
  have HP := Lib.hid hp
  have t0 : ((i : Int) == -1) = false := by rw [beq_eq_false_iff_ne]; omega
  clear hr hs hnd hne hp
  go_enter Tryz.func64, Tryz.ntmps64
  go_wp2_with (go_at_call 107; refine HI.out.mono ?_; rintro e w1 ⟨rfl, hb1⟩; have HB1 := Lib.hid hb1; clear hb1)
  go_loopw [5, 6, 7] (fun q x _ wr => ∃ j : Nat, i < j ∧ j ≤ ps.length ∧ x = .int .i64 j ∧ q = .int .i64 ((j : Int) - 1) ∧ Striking w g cap ps i j wr) (fun _ x _ _ => ps.length - (intOf x).toNat)
  case atStart => exact ⟨i + 1, by omega, by omega, by go_num, by go_num, HST.out w1 HB1.out⟩
  case round =>
    obtain ⟨j, hj0, hj, rfl, rfl, hD⟩ := hrel
    by_cases hlt : j < ps.length
    · have tk : decide ((j : Int) < (ps.length : Int)) = true := by simp; omega
      have hD' := hD
      obtain ⟨⟨cur, hb, hcs, _, hcr⟩, hk⟩ := hD'
      have q0 : wr.cell? ⟨g, j, none⟩ = some (.pointer (some ⟨ps[j], 0, none⟩)) := (hb.cell j).trans (hcr j hlt (Nat.le_refl _))
      have qc : wr.cell? ⟨cb, 0, none⟩ = some (.pointer (some ⟨p, 0, none⟩)) := hk.cell hc hcg
      have hsn : SnapsAt wr ps := HS.out.keeps hk (fun g' cs e hb' => by
        subst e
        obtain ⟨cs0, hb0⟩ := HBG.out
        exact absurd (hb'.det hb0).2 (by decide))
      have HCC := Lib.hid (rel1_calls wr ps[j] p cb qc (hsn _ (List.getElem_mem hlt)) (hsn p (by rw [← HP.out]; exact List.getElem_mem hi)))
      have e1 : decide (ps[j] = p) = false := by simpa using HNE.out j hlt (by omega)
      rw [e1] at HCC
      have qw : ∃ v, wr.cell? ⟨g, j - 1, none⟩ = some v := ⟨_, (hb.cell (j - 1)).trans (Array.getElem?_eq_getElem (by omega))⟩
      obtain ⟨yv, qw⟩ := qw
      have qf := hb.frozen (j - 1)
      have HD := Lib.hid hD
      have hjn : ((j : Int) - 1).toNat = j - 1 := by omega
      clear hD hb hcs hcr hk hsn e1
      go_wp2_with (go_at_call 65; refine HCC.out.mono ?_; rintro e w2 ⟨rfl, rfl⟩)
      go_roundw
      case rel => exact ⟨j + 1, by omega, by omega, by go_num, by go_num, HD.out.step hj0 hlt hcap⟩
      case measure => simp [intOf]; omega
    · obtain rfl : j = ps.length := by omega
      have tk : decide ((ps.length : Int) < ps.length) = false := by simp
      have hD' := hD
      obtain ⟨⟨cur, hb, hcs, hce, _⟩, hk⟩ := hD'
      have hqc : ¬ cap = ps.length - 1 := by omega
      have hjn : ((ps.length : Int) - 1).toNat = ps.length - 1 := by omega
      obtain ⟨vs, hcl⟩ : ∃ vs, ∀ ty, (Builtin.clear_ #[37] ty #[.slice (some ⟨g, ps.length - 1, none⟩) (ps.length - (ps.length - 1)) (cap - (ps.length - 1))]).run Tryz.prog wr = .ok (.tuple #[]) (wr.setCells g (ps.length - 1) vs) := by
        exact clear_snaps wr g (ps.length - 1) _ _ (by omega) (fun t ht => ⟨⟨_, (hb.cell _).trans (Array.getElem?_eq_getElem (by omega))⟩, hb.frozen _⟩)
      have HD := Lib.hid hD
      clear hD hb hcs hce hk
      go_wp2
      go_ret
      obtain ⟨⟨cur, h1, h2, h3, _⟩, k⟩ := HD.out
      obtain ⟨cur', d1, d2, d3⟩ := Blk.setCells vs (ps.length - 1) h1
      refine ⟨rfl, ⟨cur', d1, by rw [d2, h2], fun t ht => ?_⟩, k.trans (Keeps.setCells g vs _ wr) (fun _ _ h => h)⟩
      have ht2 : t < ps.length - 1 := by rw [List.length_eraseIdx_of_lt hi] at ht; exact ht
      exact (d3 t ht2).trans (h3 t ht ht2)

/-- Behind the first statement of Release. -/
def Released (w : World) (o : Obj) (s g cap : Nat) (ps : List Nat) (i : Nat) (wx : World) : Prop :=
  ∃ w5, wx = w5.setCell ⟨s, 3, none⟩ (.slice (some ⟨g, 0, none⟩) (ps.length - 1) cap) ∧ SnapRow w5 g cap (ps.eraseIdx i) ∧ Keeps (· = g) ((w.alloc o).drewN 1) w5
set_option maxRecDepth 100000 in
set_option maxHeartbeats 8000000 in
theorem release_walk (w : World) (s p a g cap i : Nat) (ps : List Nat) (cs : Array Value) (hs : Blk w s 100 cs) (h3 : cs[3]? = some (.slice (some ⟨g, 0, none⟩) ps.length cap)) (hpb : Blk w p 103 #[.pointer (some ⟨s, 0, none⟩), .pointer (some ⟨a, 0, none⟩)]) (hi : i < ps.length) (hp : ps[i] = p) (hnd : ps.Nodup) (hl : ps.length ≤ 1000) (hcap : ps.length ≤ cap) (hr : SnapRow w g cap ps) (hsn : SnapsAt w ps) :
    Calls Tryz.prog 18 #[.pointer (some ⟨p, 0, none⟩)] w fun e w' => e = .returned (.int .i64 0) ∧ Blk w' s 100 (cs.setIfInBounds 3 (.slice (some ⟨g, 0, none⟩) (ps.length - 1) cap)) ∧ SnapRow w' g cap (ps.eraseIdx i) ∧ SnapOff w' p ∧ Keeps (fun k => k = s ∨ k = g ∨ k = p) w w' := by
  obtain ⟨o, ho⟩ : ∃ o : Obj, o = .cells #[.pointer (some ⟨p, 0, none⟩)] 31 := ⟨_, rfl⟩
  have hgl : g < w.heap.size := by obtain ⟨cur, hb, _⟩ := hr; exact hb.lt
  have hsg : s ≠ g := by obtain ⟨cur, hb, _⟩ := hr; exact hs.ne_ hb (by decide)
  have hpg : p ≠ g := by obtain ⟨cur, hb, _⟩ := hr; exact hpb.ne_ hb (by decide)
  have hps : p ≠ s := hpb.ne_ hs (by decide)
  have b0 : Below w.heap.size w (w.alloc o) := (Below.refl _ w).alloc (Nat.le_refl _) o
  have hbx : Blk (w.alloc o) w.heap.size 31 #[.pointer (some ⟨p, 0, none⟩)] := by rw [ho]; exact Blk.new w _ _
  have HD : Hid (∀ n, Calls Tryz.prog 64 #[.slice (some ⟨g, 0, none⟩) ps.length cap, isit w.heap.size] ((w.alloc o).drewN n) fun e w' => e = .returned (.slice (some ⟨g, 0, none⟩) (ps.length - 1) cap) ∧ SnapRow w' g cap (ps.eraseIdx i) ∧ Keeps (· = g) ((w.alloc o).drewN n) w') := by
    show ∀ n, _
    intro n
    have bn : Below w.heap.size w ((w.alloc o).drewN n) := b0.drewN_ n
    exact delete_snap _ g cap w.heap.size i p ps hi hp hnd hl hcap (hr.below bn) (hsn.keeps (F := fun _ => False) (Keeps.of_below bn) (fun _ _ h => h.elim)) (hbx.drewN n |>.cell 0) (by omega)
  have HS := Lib.hid (Blk.alloc hs o)
  have HP := Lib.hid (Blk.alloc hpb o)
  have HX := Lib.hid hbx
  have x0 : (w.alloc o).cell? ⟨w.heap.size, 0, none⟩ = some (.pointer (some ⟨p, 0, none⟩)) := HX.out.cell 0
  have p0 : (w.alloc o).cell? ⟨p, 0, none⟩ = some (.pointer (some ⟨s, 0, none⟩)) := HP.out.cell 0
  have p1 : (w.alloc o).cell? ⟨p, 1, none⟩ = some (.pointer (some ⟨a, 0, none⟩)) := HP.out.cell 1
  have s3 : (w.alloc o).cell? ⟨s, 3, none⟩ = some (.slice (some ⟨g, 0, none⟩) ps.length cap) := (HS.out.cell 3).trans h3
  have HSL : Hid (s < w.heap.size) := hs.lt
  have HB0 := Lib.hid b0
  have HSG := Lib.hid hsg
  have HPG := Lib.hid hpg
  have HPS := Lib.hid hps
  have hcsz : 3 < cs.size := (Array.getElem?_eq_some_iff.1 h3).1
  have HO := Lib.hid ho
  rw [ho] at HD x0 p0 p1 s3
  clear hs hpb hp hnd hr hsn b0 hbx hsg hpg hps h3 ho
  go_enter Tryz.func18, Tryz.ntmps18
  go_wp2
  go_cut [] from 12 to 26 (fun wx => Released w o s g cap ps i wx)
  case first =>
    go_region_law
      (first
        | ((try go_simp); go_at_call 64; (refine (HD.out 1).mono ?_; rintro e w5 ⟨rfl, hrow5, hk5⟩; have z0 : w5.cell? ⟨w.heap.size, 0, none⟩ = some (.pointer (some ⟨p, 0, none⟩)) := hk5.cell x0 (by show ¬ w.heap.size = g; omega); have z1 : w5.cell? ⟨p, 0, none⟩ = some (.pointer (some ⟨s, 0, none⟩)) := hk5.cell p0 HPG.out; have z3 : w5.cell? ⟨s, 3, none⟩ = some (.slice (some ⟨g, 0, none⟩) ps.length cap) := hk5.cell s3 HSG.out; have HR5 := Lib.hid hrow5; have HK5 := Lib.hid hk5; have zf : w5.frozen? ⟨s, 3, none⟩ = false := ((Blk.keeps (F := (· = g)) (Blk.drewN HS.out 1) (by rw [HO.out]; exact hk5) HSG.out).frozen 3))))
    all_goals
      go_wp2_with fail
      go_meet
      exact ⟨_, rfl, HR5.out, by rw [HO.out]; exact HK5.out⟩
  case rest =>
    obtain ⟨w5, rfl, hr5, hk5⟩ := hcut
    have hs5 := Blk.keeps (F := (· = g)) (Blk.drewN HS.out 1) hk5 HSG.out
    have hp5 := Blk.keeps (F := (· = g)) (Blk.drewN HP.out 1) hk5 HPG.out
    have hx5 := Blk.keeps (F := (· = g)) (Blk.drewN HX.out 1) hk5 (by show ¬ w.heap.size = g; omega)
    obtain ⟨W, hW⟩ : ∃ W, W = w5.setCell ⟨s, 3, none⟩ (.slice (some ⟨g, 0, none⟩) (ps.length - 1) cap) := ⟨_, rfl⟩
    have hp6 := hp5.far (p := ⟨s, 3, none⟩) HPS.out (.slice (some ⟨g, 0, none⟩) (ps.length - 1) cap)
    have hx6 := hx5.far (p := ⟨s, 3, none⟩) (fun e => by have := HS.out.lt; have e : w.heap.size = s := e; have h2 : s < w.heap.size := HSL.out; omega) (.slice (some ⟨g, 0, none⟩) (ps.length - 1) cap)
    rw [← hW] at hp6 hx6 ⊢
    have HW := Lib.hid hW
    have HS5 := Lib.hid hs5
    have HP6 := Lib.hid hp6
    have HR5 := Lib.hid hr5
    have HK5 := Lib.hid hk5
    have y0 : W.cell? ⟨w.heap.size, 0, none⟩ = some (.pointer (some ⟨p, 0, none⟩)) := hx6.cell 0
    have y1 : W.cell? ⟨p, 0, none⟩ = some (.pointer (some ⟨s, 0, none⟩)) := hp6.cell 0
    have y2 : W.cell? ⟨p, 1, none⟩ = some (.pointer (some ⟨a, 0, none⟩)) := hp6.cell 1
    have f1 := hp6.frozen 0
    have f2 := hp6.frozen 1
    have hpx : w.heap.size ≠ p := hx6.ne_ hp6 (by decide)
    have yx : ∀ i u, (W.setCell ⟨p, i, none⟩ u).cell? ⟨w.heap.size, 0, none⟩ = some (.pointer (some ⟨p, 0, none⟩)) := fun i u => (hx6.far (p := ⟨p, i, none⟩) hpx u).cell 0
    have HX6 := Lib.hid hx6
    clear hr5 hk5 hs5 hp5 hx5 hp6 hx6 hW x0 p0 p1 s3
    have HEND : Hid (∀ W' : World, Keeps (· = p) W W' → Blk W' p 103 #[.pointer none, .pointer none] → Blk W' s 100 (cs.setIfInBounds 3 (.slice (some ⟨g, 0, none⟩) (ps.length - 1) cap)) ∧ SnapRow W' g cap (ps.eraseIdx i) ∧ SnapOff W' p ∧ Keeps (fun k => k = s ∨ k = g ∨ k = p) w W') := by
      show ∀ W' : World, _
      intro W' k hb
      have h3 := HS5.out.set_ 3 (.slice (some ⟨g, 0, none⟩) (ps.length - 1) cap)
      rw [← HW.out] at h3
      have hk6 : Keeps (· = s) w5 W := by rw [HW.out]; exact Keeps.set1 w5 s 3 _
      refine ⟨h3.keeps k (Ne.symm HPS.out), ?_, hb, ?_⟩
      · obtain ⟨cur, r1, r2⟩ := HR5.out
        exact ⟨cur, (r1.keeps hk6 (Ne.symm HSG.out)).keeps k (Ne.symm HPG.out), r2⟩
      · have k0 : Keeps (fun k => k = s ∨ k = g ∨ k = p) w ((w.alloc o).drewN 1) := Keeps.of_below (HB0.out.drewN_ 1)
        exact ((k0.trans HK5.out (fun _ _ h => .inr (.inl h))).trans hk6 (fun _ _ h => .inl h)).trans k (fun _ _ h => .inr (.inr h))
    go_wp2
    go_region
    all_goals
      go_wp2
      go_ret
      refine ⟨rfl, HEND.out _ ?_ ?_⟩
      · first
          | exact ((Keeps.set1 W p 0 _).trans (Keeps.set1 _ p 1 _) (fun _ _ h => h)).drew
          | exact ((Keeps.set1 W p 1 _).trans (Keeps.set1 _ p 0 _) (fun _ _ h => h)).drew
      · first
          | exact (((HP6.out).set_ 0 (.pointer none)).set_ 1 (.pointer none)).drew
          | exact (((HP6.out).set_ 1 (.pointer none)).set_ 0 (.pointer none)).drew

end Go.Proofs.YtbgiklkpinflaaaGreat

namespace Go.Proofs.YtbgiklkpinflaaaGreat
open Go.RowKit Go.Shelf Go.Maps

theorem eraseIdx_map_ {α β : Type} (f : α → β) : ∀ (l : List α) (i : Nat), (l.map f).eraseIdx i = (l.eraseIdx i).map f
  | [], _ => rfl
  | _ :: _, 0 => rfl
  | x :: l, i + 1 => by
    show f x :: (l.map f).eraseIdx i = f x :: (l.eraseIdx i).map f
    rw [eraseIdx_map_ f l i]
theorem snapRow_own {w : World} {g cap : Nat} {ps : List Nat} {Q : List PinPlace} (h : SnapRow w g cap ps) (he : ps = Q.map (·.1)) (hc : ps.length ≤ cap) (hm : cap ≤ maxLen) : w.ownsRow 0 31 1 (.slice (some ⟨g, 0, none⟩) Q.length cap) Q.length (ptrs Q) := by
  obtain ⟨cur, hb, hs, hcell⟩ := h
  have hl : Q.length = ps.length := by rw [he, List.length_map]
  refine ⟨by simp [ptrs], .inr ⟨g, cap, cur, rfl, Nat.zero_le _, hb, by omega, hm, by omega, ?_⟩⟩
  rw [Nat.mul_one]
  apply List.ext_getElem
  · simp only [List.length_take, Array.length_toList, ptrs, List.length_map]
    omega
  · intro j h1 h2
    have hj : j < ps.length := by simp only [ptrs, List.length_map] at h2; omega
    have hq : ps[j] = (Q[j]'(by omega)).1 := by simp [he]
    have := hcell j hj
    rw [Array.getElem?_eq_getElem (by omega)] at this
    injection this with this
    simp only [List.getElem_take, Array.getElem_toList, this, ptrs, List.getElem_map, hq]
theorem own_snapRow {w : World} {pv : Value} {Q : List PinPlace} (h : w.ownsRow 0 31 1 pv Q.length (ptrs Q)) (h0 : 0 < Q.length) : ∃ g cap, pv = .slice (some ⟨g, 0, none⟩) Q.length cap ∧ SnapRow w g cap (Q.map (·.1)) ∧ Q.length ≤ cap ∧ cap ≤ maxLen := by
  rcases h.2 with ⟨_, h1⟩ | ⟨g, cap, cur, e, _, hb, hn, hm, hs, ht⟩
  · have h1 : Q.length = 0 := h1
    omega
  · refine ⟨g, cap, e, ⟨cur, hb, by omega, fun t ht2 => ?_⟩, hn, hm⟩
    rw [List.length_map] at ht2
    rw [Nat.mul_one] at ht
    have := congrArg (fun l => l[t]?) ht
    simp only [List.getElem?_take, if_pos ht2, ptrs, List.getElem?_map, List.getElem?_eq_getElem ht2, Option.map_some, Array.getElem?_toList] at this
    rw [this]
    simp

theorem ston_release {P : Nat → Prop} {w : World} {s d : Nat} {X : Sto} {Q : List PinPlace} {O : List Nat} (h : StoN P w s d X Q O) {i : Nat} {q : PinPlace} (hq : Q[i]? = some q) (hnd : (Q.map (·.1)).Nodup) (hl : Q.length ≤ 1000) :
    Calls Tryz.prog 18 #[.pointer (some ⟨q.1, 0, none⟩)] w fun e w' => e = .returned (.int .i64 0) ∧ StoN P w' s d { X with pins := X.pins.eraseIdx i } (Q.eraseIdx i) O ∧ SnapOff w' q.1 ∧ Keeps (fun k => k ∈ O ∨ k = q.1) w w' := by
  obtain ⟨Sd, T, a, mb, pv, nv, gv, h1, rfl⟩ := h
  obtain ⟨hi, hqe⟩ := List.getElem?_eq_some_iff.1 hq
  have hix : i < X.pins.length := by rw [← h1.hpins.len]; exact hi
  obtain ⟨hpb, hpst⟩ := h1.hpins.pat i q X.pins[i] hq (List.getElem?_eq_getElem hix)
  obtain ⟨g, cap, rfl, hrow, hcap, hmax⟩ := own_snapRow h1.hpins.own (by omega)
  obtain ⟨cur0, hg0, _⟩ := id hrow
  have hall : ∀ (j : Nat) (q' : PinPlace), Q[j]? = some q' → ∃ cs, Blk w q'.1 103 cs := fun j q' hj => by
    have hjl : j < X.pins.length := by rw [← h1.hpins.len]; exact (List.getElem?_eq_some_iff.1 hj).1
    exact ⟨_, (h1.hpins.pat j q' X.pins[j] hj (List.getElem?_eq_getElem hjl)).1⟩
  have hw := release_walk w s q.1 q.2.1 g cap i (Q.map (·.1)) _ h1.hs (by simp) hpb (by rw [List.length_map]; exact hi) (by simp [hqe]) hnd (by rw [List.length_map]; exact hl) (by rw [List.length_map]; exact hcap) hrow (fun p hp => by
    obtain ⟨q', hq', rfl⟩ := List.mem_map.1 hp
    obtain ⟨j, hj⟩ := List.getElem?_of_mem hq'
    exact hall j q' hj)
  refine hw.mono ?_
  rintro e w' ⟨rfl, b1, b2, b3, k⟩
  have hF : ∀ g' t cs, (g' = s ∨ g' = g ∨ g' = q.1) → Blk w g' t cs → t = 100 ∨ t = 31 ∨ t = 103 := fun g' t cs e hb => by
    rcases e with rfl | rfl | rfl
    · exact .inl (hb.det h1.hs).2
    · exact .inr (.inl (hb.det hg0).2)
    · exact .inr (.inr (hb.det hpb).2)
  have hnm : ∀ b M, MapAt w b M → ¬ (b = s ∨ b = g ∨ b = q.1) := fun b M hM e => by
    rcases e with rfl | rfl | rfl
    · exact hM.not_blk h1.hs
    · exact hM.not_blk hg0
    · exact hM.not_blk hpb
  have hU : ∀ g' cs, (g' = s ∨ g' = g ∨ g' = q.1) → P g' → Blk w g' 5 cs → False := fun g' cs e _ hb => by
    rcases hF g' _ cs e hb with h | h | h <;> exact absurd h (by decide)
  have hst : ∀ a mb st, StateAt w a mb st → StateAt w' a mb st := fun a mb st hst => hst.keeps k (fun g' t cs e hb => by
    rcases hF g' t cs e hb with h | h | h <;> (rw [h]; exact ⟨by decide, by decide⟩)) (by
    obtain ⟨_, _, _, l, hM, _⟩ := hst
    exact hnm _ _ hM)
  have hlen : (Q.eraseIdx i).length = Q.length - 1 := List.length_eraseIdx_of_lt hi
  have hlen2 : (X.pins.eraseIdx i).length = X.pins.length - 1 := List.length_eraseIdx_of_lt hix
  have hme : (Q.map (·.1)).eraseIdx i = (Q.eraseIdx i).map (·.1) := eraseIdx_map_ _ _ _
  have hown := snapRow_own (Q := Q.eraseIdx i) b2 hme (by rw [hme, List.length_map, hlen]; omega) hmax
  rw [hlen] at hown
  refine ⟨rfl, ⟨Sd, T, a, mb, .slice (some ⟨g, 0, none⟩) (Q.length - 1) cap, nv, gv, ⟨?_, ?_, ?_, ⟨?_, ?_, ?_⟩, ?_, h1.mbT, ?_⟩, ?_⟩, b3, ?_⟩
  · have := b1
    rw [List.length_map] at this
    exact this
  · refine h1.disk.keeps k (fun g' hg e => ?_) hU
    obtain ⟨t, cs, hb, ht⟩ := h1.disk.lt g' hg
    rcases hF g' t cs e hb with h | h | h
    all_goals
      rw [h] at ht
      rcases ht with h | h | h <;> exact absurd h (by decide)
  · exact hst _ _ _ h1.now
  · rw [hlen]
    exact hown
  · rw [hlen]
    show _ = (X.pins.eraseIdx i).length
    rw [hlen2, h1.hpins.len]
  · intro j q' st' hq' hs'
    have hs' : (X.pins.eraseIdx i)[j]? = some st' := hs'
    have hcase : ∃ j', j' ≠ i ∧ Q[j']? = some q' ∧ X.pins[j']? = some st' := by
      rcases Nat.lt_or_ge j i with hj | hj
      · rw [List.getElem?_eraseIdx_of_lt hj] at hq' hs'
        exact ⟨j, by omega, hq', hs'⟩
      · rw [List.getElem?_eraseIdx_of_ge hj] at hq' hs'
        exact ⟨j + 1, by omega, hq', hs'⟩
    obtain ⟨j', hne, hq2, hs2⟩ := hcase
    obtain ⟨c1, c2⟩ := h1.hpins.pat j' q' st' hq2 hs2
    refine ⟨c1.keeps k (fun e => ?_), hst _ _ _ c2⟩
    rcases e with e | e | e
    · rw [e] at c1
      exact absurd (c1.det h1.hs).2 (by decide)
    · rw [e] at c1
      exact absurd (c1.det hg0).2 (by decide)
    · obtain ⟨hjl, hje⟩ := List.getElem?_eq_some_iff.1 hq2
      refine hne (nodup_inj hnd (i := j') (j := i) (by rw [List.length_map]; exact hjl) (by rw [List.length_map]; exact hi) ?_)
      simp only [List.getElem_map, hje, hqe, e]
  · refine h1.trans.keeps k hU (fun g' hg e => ?_)
    obtain ⟨M, hM⟩ := h1.trans.maps hg
    exact hnm _ _ hM e
  · intro q' hq'
    exact h1.pinT q' (List.mem_of_mem_eraseIdx hq')
  · rfl
  · refine k.weaken fun g' _ e => ?_
    rcases e with rfl | rfl | rfl
    · exact .inl (by simp)
    · exact .inl (by simp [Value.ownBlock])
    · exact .inr rfl

end Go.Proofs.YtbgiklkpinflaaaGreat
