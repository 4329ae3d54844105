/- Damaged, where nothing is damaged. -/
import Derived.Test.YtbgiklkpinflaaaGreatDelA
import Derived.Test.YtbgiklkpinflaaaGreatKeptA
namespace Go.Proofs.YtbgiklkpinflaaaGreat
open Go.RowKit Go.Shelf Go.Maps
attribute [local go_sem ↓] Go.wp_at_zero Go.wp_at_succ

section
variable {P : Nat → Prop} {w : World} {s d : Nat} {X : Sto} {O : List Nat}
theorem StoA.fetch (h : StoA P w s d X O) (hdd : isDead X.life X.disk = false) (hok : StOk X.disk.blocks.length X.now) (hpen : X.disk.pending.length ≤ 1000000000) (key : ByteArray) (hk : key.size ≤ maxLen) :
    ∃ a, w.cell? ⟨s, 2, none⟩ = some (.pointer (some ⟨a, 0, none⟩)) ∧ Calls Tryz.prog 103 #[.pointer (some ⟨s, 0, none⟩), .pointer (some ⟨a, 0, none⟩), .string key] w (FetchPost w (X.disk.fetch X.now.places key.data.toList)) := by
  obtain ⟨Sd, T, a, mb, pv, pins, nv, gv, h1, rfl⟩ := h
  exact ⟨a, h1.hs.cell 2, fetch_calls h1.hs h1.disk h1.now hok (isDead_up hdd) hpen key hk⟩
end
/-- What every call of the closure does. -/
def AllGood (w : World) (cb : Nat) (ks : List (List UInt8)) : Prop := ∀ w1, Below w.heap.size w w1 → ∀ j (hj : j < ks.length), Calls Tryz.prog 122 #[.string ⟨ks[j].toArray⟩, .pointer (some ⟨cb, 0, none⟩)] w1 fun e w' => e = .returned (.bool true) ∧ Below w1.heap.size w1 w'
set_option maxRecDepth 100000 in
set_option maxHeartbeats 4000000 in
theorem damaged1_calls {P : Nat → Prop} {w : World} {s d : Nat} {X : Sto} {O : List Nat} (h : StoA P w s d X O) (hdd : isDead X.life X.disk = false) (hok : StOk X.disk.blocks.length X.now) (hpen : X.disk.pending.length ≤ 1000000000) (cb : Nat) (hc : w.cell? ⟨cb, 0, none⟩ = some (.pointer (some ⟨s, 0, none⟩))) (key : ByteArray) (hk : key.size ≤ maxLen) (l : List UInt8) (hf : X.disk.fetch X.now.places key.data.toList = (0, l)) :
    Calls Tryz.prog 122 #[.string key, .pointer (some ⟨cb, 0, none⟩)] w fun e w' => e = .returned (.bool true) ∧ Below w.heap.size w w' := by
  obtain ⟨a, c2, _⟩ := h.fetch hdd hok hpen key hk
  have HF : Hid (∀ n, Calls Tryz.prog 103 #[.pointer (some ⟨s, 0, none⟩), .pointer (some ⟨a, 0, none⟩), .string key] (w.drewN n) (FetchPost (w.drewN n) (0, l))) := by
    show ∀ n, _
    intro n
    obtain ⟨a', c2', hcalls⟩ := (h.below ((Below.refl _ w).drewN_ n)).fetch hdd hok hpen key hk
    have e : (w.drewN n).cell? ⟨s, 2, none⟩ = w.cell? ⟨s, 2, none⟩ := rfl
    rw [e, c2] at c2'
    injection c2' with c2'
    injection c2' with c2'
    injection c2' with c2'
    injection c2' with c2' _ _
    rw [← c2', hf] at hcalls
    exact hcalls
  have hcl := World.block_lt_of_cell? w _ hc
  have hsl := World.block_lt_of_cell? w _ c2
  clear h hdd hok hpen hf hk
  go_enter Tryz.func122, Tryz.ntmps122
  go_wp2
  go_region_held3 (fun w' => w'.cell? ⟨cb, 0, none⟩ = some (.pointer (some ⟨s, 0, none⟩)) ∧ w'.cell? ⟨s, 2, none⟩ = some (.pointer (some ⟨a, 0, none⟩))) (go_keep)
    ((go_at_call 103; refine (HF.out 1).mono ?_; rintro e w2 ⟨v, rfl, hg, hb2⟩; obtain ⟨A6, c6, rfl⟩ := got_slice hg; have g0 : w2.cell? ⟨cb, 0, none⟩ = some (.pointer (some ⟨s, 0, none⟩)) := (hb2.cell (p := ⟨cb, 0, none⟩) hcl).trans hc; have g1 : w2.cell? ⟨s, 2, none⟩ = some (.pointer (some ⟨a, 0, none⟩)) := (hb2.cell (p := ⟨s, 2, none⟩) hsl).trans c2))
  all_goals
    have HB2 := Lib.hid hb2
    clear hb2 hg
    go_wp2
    go_ret
    exact ⟨rfl, below_drew HB2.out⟩

theorem AllGood.below {w w1 : World} {cb : Nat} {ks : List (List UInt8)} (h : AllGood w cb ks) (hb : Below w.heap.size w w1) : AllGood w1 cb ks := fun w2 hb2 j hj => h w2 (hb.trans (hb2.mono hb.size)) j hj
/-- The closure, as a value. -/
abbrev dmg (cb : Nat) : Value := .func (.func 122) #[] #[.pointer (some ⟨cb, 0, none⟩)]
/-- A row of keys. -/
def KeyRow (w : World) (A : Option Addr) (ks : List (List UInt8)) : Prop := 0 < ks.length → ∃ g, A = some ⟨g, 0, none⟩ ∧ g < w.heap.size ∧ ∀ j (hj : j < ks.length), w.cell? ⟨g, j, none⟩ = some (.string ⟨ks[j].toArray⟩)
theorem KeyRow.below {w w1 : World} {A : Option Addr} {ks : List (List UInt8)} (h : KeyRow w A ks) (hb : Below w.heap.size w w1) : KeyRow w1 A ks := fun h0 => by
  obtain ⟨g, e, hg, hc⟩ := h h0
  exact ⟨g, e, Nat.lt_of_lt_of_le hg hb.size, fun j hj => (hb.cell (p := ⟨g, j, none⟩) hg).trans (hc j hj)⟩
set_option maxRecDepth 100000 in
set_option maxHeartbeats 4000000 in
theorem index_none (w : World) (c cb : Nat) (A : Option Addr) :
    Calls Tryz.prog 136 #[.slice A 0 c, dmg cb] w fun e w' => e = .returned (.int .i64 (-1)) ∧ Below w.heap.size w w' := by
  go_enter Tryz.func136, Tryz.ntmps136
  go_wp2
  go_loopw [5, 8] (fun _ x wr => x = .int .i64 0 ∧ Below w.heap.size w wr) (fun _ _ _ => 0)
  case atStart => exact ⟨rfl, Below.refl _ _⟩
  case round =>
    obtain ⟨rfl, hB⟩ := hrel
    go_wp2
    go_ret
    exact ⟨rfl, hB⟩
set_option maxRecDepth 100000 in
set_option maxHeartbeats 4000000 in
theorem index_first (w : World) (ks : List (List UInt8)) (c cb : Nat) (A : Option Addr) (h0 : 0 < ks.length) (hl : ks.length ≤ 1000000) (hr : KeyRow w A ks) (hc : AllGood w cb ks) :
    Calls Tryz.prog 136 #[.slice A ks.length c, dmg cb] w fun e w' => e = .returned (.int .i64 0) ∧ Below w.heap.size w w' := by
  obtain ⟨g, rfl, hg, hcell⟩ := hr h0
  have HG := Lib.hid hc
  have HC := Lib.hid hcell
  have tk : decide (0 < (ks.length : Int)) = true := by simp; omega
  clear hc hcell hr
  go_enter Tryz.func136, Tryz.ntmps136
  go_wp2
  go_loopw [5, 8] (fun _ x wr => x = .int .i64 0 ∧ Below w.heap.size w wr) (fun _ _ _ => 0)
  case atStart => exact ⟨rfl, Below.refl _ _⟩
  case round =>
    obtain ⟨rfl, hB⟩ := hrel
    have q0 : wr.cell? ⟨g, 0, none⟩ = some (.string ⟨ks[0].toArray⟩) := (hB.cell (p := ⟨g, 0, none⟩) hg).trans (HC.out 0 h0)
    have HB := Lib.hid hB
    clear hB
    go_wp2_with (go_at_call 122; refine (HG.out wr HB.out 0 h0).mono ?_; rintro e w2 ⟨rfl, hb2⟩; have HB2 := Lib.hid hb2; clear hb2)
    go_ret
    exact ⟨rfl, HB.out.trans (HB2.out.mono HB.out.size)⟩
theorem clear_keys (w : World) (g m c : Nat) (hm : 0 < m) (hc : ∀ j, j < m → (∃ v, w.cell? ⟨g, j, none⟩ = some v) ∧ w.frozen? ⟨g, j, none⟩ = false) :
    ∃ vs, ∀ ty : TypeId, (Builtin.clear_ #[74] ty #[.slice (some ⟨g, 0, none⟩) m c]).run Tryz.prog w = .ok (.tuple #[]) (w.setCells g 0 vs) := by
  refine ⟨(Builtin.zeroCells (Value.string ⟨#[]⟩).cells m).toList, fun ty => ?_⟩
  have hl : (Builtin.zeroCells (Value.string ⟨#[]⟩).cells m).toList.length = m := by
    simp [Builtin.zeroCells, Value.cells]
  have h1 : ∀ v ∈ (Builtin.zeroCells (Value.string ⟨#[]⟩).cells m).toList, v.oneCell' = true := by
    intro v hv
    simp only [Builtin.zeroCells, Value.cells, Array.toList_map, List.mem_map] at hv
    obtain ⟨k, _, rfl⟩ := hv
    simp [Value.oneCell', Nat.mod_one]
  have hst := run_storeCells_cells (P := Tryz.prog) g 0 (Builtin.zeroCells (Value.string ⟨#[]⟩).cells m).toList 0 w (fun j hj => by obtain ⟨⟨v, e⟩, _⟩ := hc j (by omega); simp [e]) (fun j hj => by have := (hc j (by omega)).2; simpa using this) h1
  simp only [Nat.add_zero] at hst
  have hv := Tryz.zeroValue9
  have ht := Tryz.underlying74
  obtain ⟨m, rfl⟩ : ∃ k, m = k + 1 := ⟨m - 1, by omega⟩
  simp [Builtin.clear_, run_underlying ht, hv, hst]
set_option maxRecDepth 100000 in
set_option maxHeartbeats 4000000 in
theorem delkeys_none (w : World) (c cb : Nat) (A : Option Addr) :
    Calls Tryz.prog 121 #[.slice A 0 c, dmg cb] w fun e w' => e = .returned (.slice A 0 c) ∧ Below w.heap.size w w' := by
  go_enter Tryz.func121, Tryz.ntmps121
  go_wp2_with (go_at_call 136; refine (index_none _ _ _ _).mono ?_; rintro e w1 ⟨rfl, hb1⟩; have HB1 := Lib.hid hb1; clear hb1)
  go_ret
  exact ⟨rfl, HB1.out⟩
set_option maxRecDepth 100000 in
set_option maxHeartbeats 4000000 in
theorem delkeys_all (w : World) (ks : List (List UInt8)) (g c cb : Nat) (cur : Array Value) (h0 : 0 < ks.length) (hl : ks.length ≤ 1000000) (hlc : ks.length ≤ c) (hb : Blk w g 9 cur) (hcur : cur.size = c) (hr : KeyRow w (some ⟨g, 0, none⟩) ks) (hc : AllGood w cb ks) :
    Calls Tryz.prog 121 #[.slice (some ⟨g, 0, none⟩) ks.length c, dmg cb] w fun e w' => e = .returned (.slice (some ⟨g, 0, none⟩) 0 c) ∧ Keeps (· = g) w w' := by
  have HI := Lib.hid (index_first w ks c cb (some ⟨g, 0, none⟩) h0 hl hr hc)
  have HR := Lib.hid hr
  have HC := Lib.hid hc
  have HB := Lib.hid hb
  have HCU := Lib.hid hcur
  clear hr hc hb hcur
  go_enter Tryz.func121, Tryz.ntmps121
  go_wp2_with (go_at_call 136; refine HI.out.mono ?_; rintro e w1 ⟨rfl, hb1⟩; have HB1 := Lib.hid hb1; clear hb1)
  go_loopw [5, 6, 7] (fun q x _ wr => q = .int .i64 0 ∧ ∃ j : Nat, 0 < j ∧ j ≤ ks.length ∧ x = .int .i64 j ∧ Below w.heap.size w wr) (fun _ x _ _ => ks.length - (intOf x).toNat)
  case atStart => exact ⟨rfl, 1, by omega, by omega, rfl, HB1.out⟩
  case round =>
    obtain ⟨rfl, j, hj0, hj, rfl, hBr⟩ := hrel
    by_cases hlt : j < ks.length
    · have tk : decide ((j : Int) < (ks.length : Int)) = true := by simp; omega
      obtain ⟨g2, e2, hg, hcell⟩ := HR.out h0
      cases e2
      have q0 : wr.cell? ⟨g, j, none⟩ = some (.string ⟨ks[j].toArray⟩) := (hBr.cell (p := ⟨g, j, none⟩) hg).trans (hcell j hlt)
      have HBR := Lib.hid hBr
      obtain ⟨kj, hkj⟩ : ∃ kj, kj = ks[j] := ⟨_, rfl⟩
      have HCJ := Lib.hid (HC.out)
      rw [← hkj] at q0
      have HKJ := Lib.hid hkj
      clear hBr hcell hkj
      have HCL : Hid (∀ o, Calls Tryz.prog 122 #[.string ⟨kj.toArray⟩, .pointer (some ⟨cb, 0, none⟩)] (wr.alloc o) fun e w' => e = .returned (.bool true) ∧ Below (wr.alloc o).heap.size (wr.alloc o) w') := by
        show ∀ o, _
        intro o
        rw [HKJ.out]
        exact HC.out _ (HBR.out.alloc HBR.out.size o) j hlt
      have HCL0 : Hid (Calls Tryz.prog 122 #[.string ⟨kj.toArray⟩, .pointer (some ⟨cb, 0, none⟩)] wr fun e w' => e = .returned (.bool true) ∧ Below wr.heap.size wr w') := by
        show Calls _ _ _ _ _
        rw [HKJ.out]
        exact HC.out _ HBR.out j hlt
      go_wp2_with (go_at_call 122; refine HCL0.out.mono ?_; rintro e w2 ⟨rfl, hb2⟩; have HB2 := Lib.hid hb2; clear hb2)
      go_roundw
      case rel => exact ⟨rfl, j + 1, by omega, by omega, by go_num, HBR.out.trans (HB2.out.mono HBR.out.size)⟩
      case measure => simp [intOf]; omega
    · obtain rfl : j = ks.length := by omega
      have tk : decide ((ks.length : Int) < ks.length) = false := by simp
      have hbw : Blk wr g 9 cur := HB.out.below hBr HB.out.lt
      have hqc : ¬ c = 0 := by omega
      obtain ⟨vs, hcl⟩ : ∃ vs, ∀ ty, (Builtin.clear_ #[74] ty #[.slice (some ⟨g, 0, none⟩) ks.length c]).run Tryz.prog wr = .ok (.tuple #[]) (wr.setCells g 0 vs) := by
        exact clear_keys wr g ks.length c (by omega) (fun t ht => ⟨⟨_, (hbw.cell t).trans (Array.getElem?_eq_getElem (by have := HCU.out; omega))⟩, hbw.frozen t⟩)
      have HBR := Lib.hid hBr
      clear hBr hbw
      go_wp2
      go_ret
      exact ⟨rfl, (Keeps.of_below HBR.out).trans (Keeps.setCells g vs _ wr) (fun _ _ h => h)⟩
set_option maxRecDepth 100000 in
set_option maxHeartbeats 4000000 in
theorem sto_damaged {P : Nat → Prop} {w : World} {s d : Nat} {X : Sto} {O : List Nat} (h : StoA P w s d X O) (hdd : isDead X.life X.disk = false) (hok : StOk X.disk.blocks.length X.now) (hpen : X.disk.pending.length ≤ 1000000000) (hall : ∀ k ∈ X.now.keys, ∃ l, X.disk.fetch X.now.places k = (0, l)) :
    Calls Tryz.prog 77 #[.pointer (some ⟨s, 0, none⟩)] w fun e w' => (∃ A c, e = .returned (.tuple #[.slice A 0 c, .int .i64 0])) ∧ Below w.heap.size w w' := by
  have hkl : ∀ k ∈ X.now.keys, k.length ≤ 64 := fun k hk => by
    obtain ⟨q, hq, rfl⟩ := List.mem_map.1 hk
    exact (hok.keys q hq).2
  have hlen : X.now.keys.length ≤ 512 := by
    show (X.now.places.map _).length ≤ 512
    rw [List.length_map]
    exact hok.few
  obtain ⟨w0, hw0⟩ : ∃ w0, w0 = w.alloc (.cells #[.pointer (some ⟨s, 0, none⟩)] 35) := ⟨_, rfl⟩
  have hb0 : Below w.heap.size w w0 := by rw [hw0]; exact (Below.refl _ w).alloc (Nat.le_refl _) _
  have hc0 : w0.cell? ⟨w.heap.size, 0, none⟩ = some (.pointer (some ⟨s, 0, none⟩)) := by rw [hw0]; exact (Blk.new w _ _).cell 0
  have hsz0 : w.heap.size < w0.heap.size := by rw [hw0]; simp
  have hK := sto_keys (h.below hb0) hdd hok
  have hG : ∀ w1, Below w0.heap.size w0 w1 → AllGood w1 w.heap.size X.now.keys := by
    intro w1 hb1 w2 hb2 j hj
    have hb : Below w0.heap.size w0 w2 := hb1.trans (hb2.mono hb1.size)
    obtain ⟨l, hl⟩ := hall _ (List.getElem_mem hj)
    have hle := hkl _ (List.getElem_mem hj)
    exact damaged1_calls ((h.below hb0).below hb) hdd hok hpen w.heap.size ((hb.cell (p := ⟨w.heap.size, 0, none⟩) hsz0).trans hc0) ⟨X.now.keys[j].toArray⟩ (by show X.now.keys[j].toArray.size ≤ maxLen; rw [List.size_toArray]; unfold maxLen; omega) l (by simpa using hl)
  have HG := Lib.hid hG
  have HB0 := Lib.hid hb0
  obtain ⟨ks, hks⟩ : ∃ ks, ks = X.now.keys := ⟨_, rfl⟩
  rw [← hks] at hK HG hlen
  have HK := Lib.hid hK
  rw [hw0] at HK
  have HW0 := Lib.hid hw0
  clear h hdd hok hpen hall hK hG hks hw0 hc0 hsz0 hkl hb0
  go_enter Tryz.func77, Tryz.ntmps77
  go_wp2_with (go_at_call 37; refine HK.out.mono ?_; rintro e w1 ⟨v1, rfl, hstr, hb1⟩; rw [← HW0.out] at hstr hb1; obtain ⟨A1, c1, rfl, hrow⟩ := strs_slice hstr; have HSTR := Lib.hid hstr; have HB1 := Lib.hid hb1; have HROW := Lib.hid hrow; clear hstr hb1 hrow)
  have HBW : Hid (Below w.heap.size w w1) := HB0.out.trans (HB1.out.mono HB0.out.size)
  rcases Nat.eq_zero_or_pos ks.length with h0 | h0
  · rw [h0]
    go_wp2_with (go_at_call 121; refine (delkeys_none _ _ _ _).mono ?_; rintro e w2 ⟨rfl, hb2⟩; have HB2 := Lib.hid hb2; clear hb2)
    go_ret2
    exact ⟨⟨_, _, rfl⟩, HBW.out.trans (HB2.out.mono HBW.out.size)⟩
  · have hform := HSTR.out
    obtain ⟨_, hform⟩ := hform
    rcases hform with ⟨e1, _⟩ | ⟨g, cap, cur, e1, hbg, hblk, hnc, hcm, hcs, _⟩
    · exact absurd e1 (by intro e; injection e with _ e2 _; omega)
    · injection e1 with e1 _ e3
      subst e1 e3
      have HD := Lib.hid (delkeys_all w1 ks g c1 w.heap.size cur h0 (by omega) hnc hblk (by omega) HROW.out (HG.out w1 HB1.out))
      have HBG := Lib.hid hbg
      clear hblk hcs hbg
      go_wp2_with (go_at_call 121; refine HD.out.mono ?_; rintro e w2 ⟨rfl, hk2⟩; have HK2 := Lib.hid hk2; clear hk2)
      go_ret2
      refine ⟨⟨_, _, rfl⟩, ?_⟩
      refine below_keeps HBW.out HK2.out HBW.out.size fun k hk => ?_
      subst hk
      exact Nat.le_trans HB0.out.size HBG.out

end Go.Proofs.YtbgiklkpinflaaaGreat
