/- value, spoil, same. value. StoreKept: the store beside bytes that turn. StoreKept: the plain part. StoreKept: the walk. StoreKept: all together. -/
import Derived.Test.YtbgiklkpinflaaaLaw
import Derived.Laws.BytesArg
import Derived.IntWalk
import Derived.Test.YtbgiklkpinflaaaSnap
import Derived.Deep.DeepCutAuto

namespace Go.Proofs.Ytbgiklkpinflaaa
open Go.RowKit Go.Shelf Go.Maps
attribute [local go_sem ↓] Go.wp_at_zero Go.wp_at_succ

theorem nums_str (l : List UInt8) : strOfNums (l.map fun b => (b.toNat : Int)) = ⟨l.toArray⟩ := by
  have e : ((l.map fun b => (b.toNat : Int)).map fun n => UInt8.ofNat n.toNat) = l := by
    induction l with
    | nil => rfl
    | cons x r ih =>
      rw [List.map_cons, List.map_cons, ih]
      simp
  unfold strOfNums
  rw [e]
/-- string(b). -/
theorem conv_bytes {P : Nat → Prop} {w : World} {v : Value} {l : List UInt8} (h : BytesAt P w v l) : (convert 26 9 v).run Try.prog w = .ok (.string ⟨l.toArray⟩) w := by
  obtain ⟨g, cap, cur, rfl, _, _, _, hc⟩ := h.cells
  have h1 := run_convert_bytes_arg (P := Try.prog) w 26 5 Try.underlying26 Try.underlying5 g 0 l.length cap (l.map fun b => (b.toNat : Int)) (by simp) (fun i hi => by
    rw [hc i (.int .u8 (l[i].toNat : Int)) (by simp [bv, hi])]
    simp [hi]) 9 Try.underlying9
  rw [h1, nums_str]
theorem conv_got {B : Nat} {w : World} {v : Value} {l : List UInt8} (h : Got B w v l) : (convert 26 9 v).run Try.prog w = .ok (.string ⟨l.toArray⟩) w := by
  rcases h with ⟨rfl, rfl⟩ | h
  · exact run_convert_bytes_nil (P := Try.prog) w 26 5 Try.underlying26 Try.underlying5 0 0 9 Try.underlying9
  · exact conv_bytes h

set_option maxRecDepth 100000 in
set_option maxHeartbeats 4000000 in
theorem same_calls {w : World} {v1 v2 : Value} {l : List UInt8} (h1 : (convert 26 9 v1).run Try.prog w = .ok (.string ⟨l.toArray⟩) w) (h2 : (convert 26 9 v2).run Try.prog w = .ok (.string ⟨l.toArray⟩) w) :
    Calls Try.prog 17 #[v1, v2] w fun e w' => e = .returned (.bool true) ∧ Below w.heap.size w w' := by
  obtain ⟨z, hz⟩ : ∃ z : ByteArray, z = ⟨l.toArray⟩ := ⟨_, rfl⟩
  rw [← hz] at h1 h2
  clear hz
  go_enter Try.func17, Try.ntmps17
  go_wp2
  go_ret
  refine ⟨?_, Below.refl _ _⟩
  simp

/-- Some cells of bytes. -/
def U8s (w0 : World) (g n cap : Nat) (wr : World) : Prop := Keeps (· = g) w0 wr ∧ ∃ cs : Array Value, Blk wr g 5 cs ∧ cs.size = cap ∧ ∀ i, i < n → ∃ x : Int, cs[i]? = some (.int .u8 x)
theorem U8s.set {w0 wr : World} {g n cap k : Nat} (h : U8s w0 g n cap wr) (y : Int) : U8s w0 g n cap (wr.setCell ⟨g, k, none⟩ (.int .u8 y)) := by
  obtain ⟨kp, cs, hb, hs, hx⟩ := h
  refine ⟨kp.setCell (p := ⟨g, k, none⟩) (fun _ => rfl) _, _, hb.set_ k _, by simpa using hs, fun i hi => ?_⟩
  obtain ⟨x, hx⟩ := hx i hi
  by_cases e : k = i
  · subst e
    refine ⟨y, ?_⟩
    have : k < cs.size := (Array.getElem?_eq_some_iff.1 hx).1
    simp [this]
  · exact ⟨x, by rw [Array.getElem?_setIfInBounds_ne e]; exact hx⟩
set_option maxRecDepth 100000 in
set_option maxHeartbeats 4000000 in
/-- spoil: only the block of the slice turns. -/
theorem spoil_calls {P : Nat → Prop} {w : World} {v : Value} {l : List UInt8} (h : BytesAt P w v l) (hl : l.length ≤ 1000000) :
    Calls Try.prog 15 #[v] w fun e w' => e = .returned (.tuple #[]) ∧ ∃ g c, v = .slice (some ⟨g, 0, none⟩) l.length c ∧ P g ∧ (∃ cs, Blk w g 5 cs) ∧ Keeps (· = g) w w' := by
  obtain ⟨g, cap, cur, rfl, hcap, hp, hb, hc⟩ := h.cells
  have hU : U8s w g l.length cur.size w := ⟨Keeps.refl _ _, cur, hb, rfl, fun i hi => ⟨(l[i].toNat : Int), by
    have := hc i (.int .u8 (l[i].toNat : Int)) (by simp [bv, hi])
    rw [hb.cell] at this
    simpa using this⟩⟩
  obtain ⟨n, hn⟩ : ∃ n, n = l.length := ⟨_, rfl⟩
  rw [← hn] at hl hU hcap ⊢
  have HP := Lib.hid hp
  have HB : Hid (∃ cs, Blk w g 5 cs) := Lib.hid ⟨_, hb⟩
  have HU := Lib.hid hU
  clear hn hc hp hb hU
  go_enter Try.func15, Try.ntmps15
  go_wp2
  go_loopw [5] (fun i wr => ∃ k : Nat, k ≤ n ∧ i = .int .i64 k ∧ U8s w g n cur.size wr) (fun i _ => n - (intOf i).toNat)
  case atStart => exact ⟨0, Nat.zero_le _, rfl, HU.out⟩
  case round =>
    obtain ⟨k, hk, rfl, hM⟩ := hrel
    by_cases hlt : k < n
    · have tk : decide ((k : Int) < n) = true := by simp; omega
      obtain ⟨kp, cs, hb, hs, hx⟩ := hM
      obtain ⟨x, hx1⟩ := hx k hlt
      have q1 : wr.cell? ⟨g, k, none⟩ = some (.int .u8 x) := (hb.cell k).trans hx1
      have q2 := hb.frozen k
      have HM : Hid (U8s w g n cur.size wr) := Lib.hid ⟨kp, cs, hb, hs, hx⟩
      clear hb hs hx kp hx1
      go_wp2
      go_roundw
      case rel => exact ⟨k + 1, by omega, by go_num, HM.out.set _⟩
      case measure => simp [intOf]; omega
    · obtain rfl : k = n := by omega
      have tk : decide ((k : Int) < k) = false := by simp
      have HM := Lib.hid hM
      clear hM
      go_wp2
      go_end0
      exact ⟨rfl, g, cap, rfl, HP.out, HB.out, HM.out.1⟩
set_option maxRecDepth 100000 in
set_option maxHeartbeats 4000000 in
theorem spoil_nil (w : World) : Calls Try.prog 15 #[.slice none 0 0] w fun e w' => e = .returned (.tuple #[]) ∧ Below w.heap.size w w' := by
  go_enter Try.func15, Try.ntmps15
  go_wp2
  go_loopw [5] (fun i wr => i = .int .i64 0 ∧ Below w.heap.size w wr) (fun i _ => 0)
  case atStart => exact ⟨rfl, Below.refl _ _⟩
  case round =>
    obtain ⟨rfl, hM⟩ := hrel
    go_wp2
    go_end0
    exact ⟨rfl, hM⟩

end Go.Proofs.Ytbgiklkpinflaaa

namespace Go.Proofs.Ytbgiklkpinflaaa
open Go.RowKit Go.Shelf Go.Maps
attribute [local go_sem ↓] Go.wp_at_zero Go.wp_at_succ

def valueOf (n y : Nat) : List UInt8 := (List.range (n % 2048)).map fun i => UInt8.ofNat ((y + i) % 256)
theorem valueOf_length (n y : Nat) : (valueOf n y).length = n % 2048 := by simp [valueOf]
/-- k of the bytes are set. -/
def vcells (m y k : Nat) : Array Value := ((List.range m).map fun i => if i < k then Value.int .u8 (((y + i) % 256 : Nat) : Int) else .int .u8 0).toArray
theorem vcells_size (m y k : Nat) : (vcells m y k).size = m := by simp [vcells]
theorem vcells_get {m y k i : Nat} (h : i < m) : (vcells m y k)[i]? = some (if i < k then Value.int .u8 (((y + i) % 256 : Nat) : Int) else .int .u8 0) := by simp [vcells, h]
theorem vcells_set {m y k : Nat} (_h : k < m) : (vcells m y k).setIfInBounds k (.int .u8 (((y + k) % 256 : Nat) : Int)) = vcells m y (k + 1) := by
  apply Array.ext
  · simp [vcells]
  · intro i h1 h2
    have hi : i < m := by simpa [vcells] using h2
    rw [Array.getElem_setIfInBounds (by simpa [vcells] using h2)]
    by_cases e : k = i
    · subst e
      simp [vcells]
    · rw [if_neg e]
      have e2 : (i < k + 1) ↔ (i < k) := by omega
      simp [vcells, e2]
theorem vcells_bytes (n y : Nat) : (vcells (n % 2048) y (n % 2048)).toList = (valueOf n y).map bv := by
  unfold vcells valueOf
  rw [List.map_map]
  refine List.map_congr_left fun i hi => ?_
  rw [if_pos (List.mem_range.1 hi)]
  show _ = Value.int .u8 ((UInt8.ofNat ((y + i) % 256)).toNat : Int)
  rw [UInt8.toNat_ofNat']
  simp
/-- k of the bytes are made. -/
def Valuing (w : World) (m y k : Nat) (kd : Int) (key : ByteArray) (n : Nat) (wr : World) : Prop :=
  Blk wr w.heap.size 42 #[.int .u8 kd, .string key, .int .u16 (n : Int), .int .u8 (y : Int)] ∧ Blk wr (w.heap.size + 1) 5 (vcells m y k) ∧ Below w.heap.size w wr
theorem Valuing.set {w wr : World} {m y k : Nat} {kd : Int} {key : ByteArray} {n : Nat} (h : Valuing w m y k kd key n wr) (hk : k < m) {x : Int} (hx : x = (((y + k) % 256 : Nat) : Int)) : Valuing w m y (k + 1) kd key n (wr.setCell ⟨w.heap.size + 1, k, none⟩ (.int .u8 x)) := by
  subst hx
  refine ⟨h.1.far (p := ⟨w.heap.size + 1, k, none⟩) (by simp) _, ?_, h.2.2.setCell (p := ⟨w.heap.size + 1, k, none⟩) (by simp) _⟩
  rw [← vcells_set hk]
  exact h.2.1.set_ k _
theorem Valuing.end_ {w wr : World} {y : Nat} {kd : Int} {key : ByteArray} {n : Nat} (h : Valuing w (n % 2048) y (n % 2048) kd key n wr) : BytesAt (w.heap.size ≤ ·) wr (.slice (some ⟨w.heap.size + 1, 0, none⟩) (n % 2048) (n % 2048)) (valueOf n y) := by
  refine ⟨w.heap.size + 1, n % 2048, _, by rw [valueOf_length], by omega, h.2.1, by rw [valueOf_length]; exact Nat.le_refl _, by unfold maxLen; omega, vcells_size _ _ _, ?_⟩
  rw [valueOf_length, vcells_bytes, List.take_of_length_le]
  rw [List.length_map, valueOf_length]
  exact Nat.le_refl _

set_option maxRecDepth 100000 in
set_option maxHeartbeats 4000000 in
theorem value_calls (w : World) (kd : Int) (key : ByteArray) (n y : Nat) (hn : n ≤ 65535) (hy : y ≤ 255) :
    Calls Try.prog 14 #[.agg #[.int .u8 kd, .string key, .int .u16 (n : Int), .int .u8 (y : Int)]] w fun e w' => ∃ v, e = .returned v ∧ BytesAt (w.heap.size ≤ ·) w' v (valueOf n y) ∧ Below w.heap.size w w' := by
  obtain ⟨m, hm⟩ : ∃ m, m = n % 2048 := ⟨_, rfl⟩
  have hm2 : m ≤ 2047 := by omega
  obtain ⟨L, Z, hZ, hmk, hby⟩ : ∃ (L : Array Value) (Z : Unit), L = vcells m y 0 ∧ (∀ w : World, (Instr.makeSlice 26 (.int .i64 (m : Int)) (.int .i64 (m : Int))).run Try.prog w = .ok (.slice (some ⟨w.heap.size, 0, none⟩) m m) (w.alloc (.cells L 5))) ∧ True := by
    refine ⟨_, (), ?_, Try.makeU8 m (by omega), trivial⟩
    unfold vcells
    congr 1
    rw [List.map_replicate]
    apply List.ext_getElem
    · simp
    · intro i h1 h2
      simp [bv]
  have hmod : (n : Int) % 2048 = (m : Int) := by omega
  have HK := Lib.hid hm
  clear hm
  clear hby
  go_enter Try.func14, Try.ntmps14
  have HL := Lib.hid hZ
  clear hZ
  go_wp2
  go_loopw [4, 12] (fun _ i wr => ∃ k : Nat, k ≤ m ∧ i = .int .i64 k ∧ Valuing w m y k kd key n wr) (fun _ i _ => m - (intOf i).toNat)
  case atStart =>
    refine ⟨0, Nat.zero_le _, rfl, (Blk.new w _ _).alloc _, ?_, ((Below.refl _ w).alloc (Nat.le_refl _) _).alloc (by simp) _⟩
    rw [← HL.out]
    have := Blk.new (w.alloc (.cells #[.int .u8 kd, .string key, .int .u16 (n : Int), .int .u8 (y : Int)] 42)) 5 L
    rwa [World.size_alloc] at this
  case round =>
    obtain ⟨k, hk, rfl, hM⟩ := hrel
    by_cases hlt : k < m
    · have tk : decide ((k : Int) < m) = true := by simp; omega
      have q0 : wr.cell? ⟨w.heap.size, 3, none⟩ = some (.int .u8 (y : Int)) := hM.1.cell 3
      have q1 : wr.cell? ⟨w.heap.size + 1, k, none⟩ = some (.int .u8 0) := (hM.2.1.cell k).trans ((vcells_get hlt).trans (by rw [if_neg (Nat.lt_irrefl _)]))
      have q2 := hM.2.1.frozen k
      have HM := Lib.hid hM
      clear hM
      go_wp2
      go_roundw
      case rel =>
        refine ⟨k + 1, by omega, by go_num, HM.out.set hlt ?_⟩
        omega
      case measure => simp [intOf]; omega
    · obtain rfl : k = m := by omega
      have tk : decide ((k : Int) < k) = false := by simp
      have HM := Lib.hid hM
      clear hM
      go_wp2
      go_ret
      have := HM.out
      have e := HK.out
      subst e
      exact ⟨_, rfl, this.end_, this.2.2⟩

end Go.Proofs.Ytbgiklkpinflaaa

namespace Go.Proofs.Ytbgiklkpinflaaa
open Go.RowKit Go.Shelf Go.Maps
attribute [local go_sem ↓] Go.wp_at_zero Go.wp_at_succ

/-- The blocks made between two worlds are left out. -/
def Less (P : Nat → Prop) (w w' : World) : Nat → Prop := fun k => P k ∧ (k < w.heap.size ∨ w'.heap.size ≤ k)
section
variable {P Q F : Nat → Prop} {w0 w w' : World} {s d : Nat} {X : Sto} {O : List Nat}
theorem BytesAt.less {v : Value} {l : List UInt8} (h : BytesAt P w v l) (hb : Below w.heap.size w w') : BytesAt (Less P w w') w' v l := by
  obtain ⟨g, cap, cur, hv, hp, hk, r⟩ := h
  exact ⟨g, cap, cur, hv, ⟨hp, .inl hk.lt⟩, hk.below hb hk.lt, r⟩
theorem DiskAt.less {b : Nat} {D : Dsk} {S : List Nat} (h : DiskAt P w b D S) (hb : Below w.heap.size w w') : DiskAt (Less P w w') w' b D S := by
  obtain ⟨ho, g1, cur1, pv, ps, rfl, hr⟩ := h
  refine ⟨ho, g1, cur1, pv, ps, rfl, hr.hb.below hb hr.hb.lt, hr.hg.below hb hr.hg.lt, hr.le, fun i l hi => ?_, ownsRow_keeps hr.own (Keeps.of_below (F := fun _ => False) hb) (fun _ _ h => h), hr.pb, fun i p hp => ?_, fun k hk => ⟨hr.fresh k (Nat.le_trans hb.size hk), .inr hk⟩⟩
  · obtain ⟨v, hv, hB⟩ := hr.bl i l hi
    exact ⟨v, hv, hB.less hb⟩
  · obtain ⟨v, hv, hB⟩ := hr.pl i p hp
    exact ⟨v, hv, hB.less hb⟩
theorem Box.less (h : Box P w0 w s d X) (hb : Below w.heap.size w w') : Box (Less P w w') w0 w' s d X := by
  obtain ⟨h1, h2, O, ⟨Sd, T, a, mb, pv, pins, nv, gv, hp, rfl⟩, h4⟩ := h
  have hp' := hp.keeps (Keeps.of_below (F := fun _ => False) hb) (Alien.none P w _)
  refine ⟨Nat.le_trans h1 hb.size, h2.trans (hb.mono h1), _, ⟨Sd, T, a, mb, pv, pins, nv, gv, ⟨hp'.hs, hp.disk.less hb, hp'.now, hp'.hpins, ?_, hp'.mbT, hp'.pinT⟩, rfl⟩, h4⟩
  rcases hp.trans with h | ⟨e1, nb, gb, e2, e3, e4, e5, ⟨l, e6, e7, e8⟩, e9⟩
  · exact .inl h
  · exact .inr ⟨e1, nb, gb, e2, e3, e4, e5, ⟨l, e6.below hb, e7, fun x hx => (e8 x hx).less hb⟩, MapAt.below e9 hb⟩
/-- Bytes that are not the store's turn. -/
theorem Box.turned (h : Box P w0 w s d X) (k : Keeps F w w') (hF : ∀ g, F g → w0.heap.size ≤ g ∧ ¬ P g ∧ ∃ cs, Blk w g 5 cs) : Box P w0 w' s d X := by
  obtain ⟨h1, h2, O, h3, h4⟩ := h
  refine ⟨Nat.le_trans h1 k.size, below_keeps h2 k h1 fun g hg => (hF g hg).1, O, h3.keeps k fun g hg => ?_, h4⟩
  obtain ⟨_, hp, cs, hb⟩ := hF g hg
  exact ⟨h3.no_bytes hb, _, cs, hb, by decide, by decide, by decide, fun _ => hp⟩
theorem BenchAt.turned {g d s r : Nat} {pv : Value} (hb : BenchAt w g d s r pv) (k : Keeps F w w') (hF : ∀ g, F g → ∃ cs, Blk w g 5 cs) : BenchAt w' g d s r pv :=
  Blk.keeps hb k fun hg => by
    obtain ⟨cs, h⟩ := hF _ hg
    exact absurd (h.det hb).2 (by decide)
theorem SnapAt.turned {p s a mb : Nat} {st : St} (h : SnapAt w p s a mb st) (k : Keeps F w w') (hF : ∀ g, F g → ∃ cs, Blk w g 5 cs) : SnapAt w' p s a mb st := by
  refine ⟨h.1.keeps k fun hg => ?_, h.2.keeps k (fun g t cs hg hb => ?_) fun hg => ?_⟩
  · obtain ⟨cs, hb⟩ := hF _ hg
    exact absurd (hb.det h.1).2 (by decide)
  · obtain ⟨cs', hb'⟩ := hF _ hg
    rw [(hb.det hb').2]
    exact ⟨by decide, by decide⟩
  · obtain ⟨cs, hb⟩ := hF _ hg
    obtain ⟨_, _, _, l, hm, _⟩ := h.2
    exact hm.not_blk hb
theorem Box.snapshot (h : Box P w0 w s d X) (hdd : isDead X.life X.disk = false) (hfew : X.pins.length < 16) :
    Calls Try.prog 16 #[.pointer (some ⟨s, 0, none⟩)] w fun e w' => ∃ p a mb, e = .returned (.tuple #[.pointer (some ⟨p, 0, none⟩), .int .i64 0]) ∧ SnapAt w' p s a mb X.now ∧ Box P w0 w' s d X.pinned ∧ Others w w' := by
  obtain ⟨h1, h2, O, h3, h4⟩ := h
  exact (sto_snapshot h3 hdd hfew).mono fun e w' ⟨p, a, mb, e1, e2, e3⟩ => ⟨p, a, mb, e1, e2, Box.step h1 h2 h3 h4 e3⟩
theorem Box.snap_get (h : Box P w0 w s d X) {p a mb : Nat} {st : St} (hp : SnapAt w p s a mb st) (hok : StOk X.disk.blocks.length st) (hpen : X.disk.pending.length ≤ 1000000000) (key : ByteArray) (hk : key.size ≤ maxLen) :
    Calls Try.prog 18 #[.pointer (some ⟨p, 0, none⟩), .string key] w (FetchPost w (getOf X.life X.disk st.places key.data.toList)) := by
  obtain ⟨h1, h2, O, h3, h4⟩ := h
  exact Go.Proofs.Ytbgiklkpinflaaa.snap_get h3 hp hok hpen key hk
end

/-- spoil, of what Get returns. -/
theorem spoil_got {B : Nat} {w : World} {v : Value} {l : List UInt8} (h : Got B w v l) (hl : l.length ≤ 1000000) :
    Calls Try.prog 15 #[v] w fun e w' => e = .returned (.tuple #[]) ∧ ∃ F : Nat → Prop, Keeps F w w' ∧ ∀ g, F g → B ≤ g ∧ ∃ cs, Blk w g 5 cs := by
  rcases h with ⟨rfl, rfl⟩ | h
  · exact (spoil_nil w).mono fun e w' ⟨h1, h2⟩ => ⟨h1, fun _ => False, Keeps.of_below h2, fun _ h => h.elim⟩
  · refine (spoil_calls h hl).mono ?_
    rintro e w' ⟨h1, g, c, _, h2, h3, h4⟩
    exact ⟨h1, (· = g), h4, fun g' hg => by
      subst hg
      exact ⟨h2, h3⟩⟩

end Go.Proofs.Ytbgiklkpinflaaa

namespace Go.Proofs.Ytbgiklkpinflaaa
open Go.RowKit Go.Shelf Go.Maps

/-- Two new slices, apart, with the same bytes. -/
def TwoAt (w1 : World) (l : List UInt8) (v u : Value) (wx : World) : Prop :=
  ∃ Qv Qu : Nat → Prop, BytesAt Qv wx v l ∧ BytesAt Qu wx u l ∧ (∀ k, Qv k → ¬ Qu k) ∧ (∀ k, Qv k → w1.heap.size ≤ k ∧ k < wx.heap.size) ∧ (∀ k, Qu k → w1.heap.size ≤ k ∧ k < wx.heap.size) ∧ Below w1.heap.size w1 wx
theorem BytesAt.lt_ {Q : Nat → Prop} {w : World} {v : Value} {l : List UInt8} (h : BytesAt Q w v l) : BytesAt (fun k => Q k ∧ k < w.heap.size) w v l := by
  obtain ⟨g, cap, cur, hv, hp, hk, r⟩ := h
  exact ⟨g, cap, cur, hv, ⟨hp, hk.lt⟩, hk, r⟩
theorem BytesAt.below_ {Q : Nat → Prop} {w w' : World} {v : Value} {l : List UInt8} (h : BytesAt Q w v l) (hb : Below w.heap.size w w') : BytesAt Q w' v l := h.keeps (Keeps.of_below (F := fun _ => False) hb) (fun _ _ h => h.elim)
theorem two_made {w1 w2 wA wB : World} {vA vB : Value} {l : List UInt8} (h12 : Below w1.heap.size w1 w2) (hA : BytesAt (w2.heap.size ≤ ·) wA vA l) (hbA : Below w2.heap.size w2 wA) (hB : BytesAt (wA.heap.size ≤ ·) wB vB l) (hbB : Below wA.heap.size wA wB) : TwoAt w1 l vA vB wB ∧ TwoAt w1 l vB vA wB := by
  have a := hA.lt_.below_ hbB
  have b := hB.lt_
  have s1 := h12.size
  have s2 := hbA.size
  have s3 := hbB.size
  have hb : Below w1.heap.size w1 wB := (h12.trans (hbA.mono s1)).trans (hbB.mono (by omega))
  exact ⟨⟨_, _, a, b, fun k h1 h2 => by omega, fun k h => by omega, fun k h => by omega, hb⟩, ⟨_, _, b, a, fun k h1 h2 => by omega, fun k h => by omega, fun k h => by omega, hb⟩⟩

theorem less_not {P : Nat → Prop} {w w' : World} {g : Nat} (h1 : w.heap.size ≤ g) (h2 : g < w'.heap.size) : ¬ Less P w w' g := fun h => by
  rcases h.2 with h3 | h3
  · exact absurd h1 (Nat.not_le.2 h3)
  · exact absurd h2 (Nat.not_lt.2 h3)
/-- The store has one value. -/
structure OneHas (X : Sto) (n : Nat) (k l : List UInt8) : Prop where
  len : X.disk.blocks.length = n
  pend : X.disk.pending = []
  now : X.now = oneState n k l
  get : X.disk.fetch X.now.places k = (0, l)
  dead : isDead X.life X.disk = false
theorem OneDone.has {X X' : Sto} {n : Nat} {k l : List UInt8} (h : OneDone X X' n k l) (hd : isDead X'.life X'.disk = false) : OneHas X' n k l := ⟨h.len, h.pend, h.now, h.get, hd⟩
theorem OneHas.pinned {X : Sto} {n : Nat} {k l : List UInt8} (h : OneHas X n k l) : OneHas X.pinned n k l := ⟨h.len, h.pend, h.now, h.get, h.dead⟩

/-- What Get returns, with the two worlds between which its memory was made. -/
def GotIn (w1 w2 w : World) (v : Value) (l : List UInt8) : Prop := (v = .slice none 0 0 ∧ l = []) ∨ BytesAt (fun k => w1.heap.size ≤ k ∧ k < w2.heap.size) w v l
theorem GotIn.of {w1 w2 : World} {v : Value} {l : List UInt8} (h : Got w1.heap.size w2 v l) : GotIn w1 w2 w2 v l := h.imp id fun h => h.lt_
theorem GotIn.below {w1 w2 w w' : World} {v : Value} {l : List UInt8} (h : GotIn w1 w2 w v l) (hb : Below w.heap.size w w') : GotIn w1 w2 w' v l := h.imp id fun h => h.below_ hb
theorem GotIn.got {w1 w2 w : World} {v : Value} {l : List UInt8} (h : GotIn w1 w2 w v l) : Got w1.heap.size w v l := h.imp id fun h => h.mono fun _ h => h.1
theorem spoil_in {w1 w2 w : World} {v : Value} {l : List UInt8} (h : GotIn w1 w2 w v l) (hl : l.length ≤ 1000000) :
    Calls Try.prog 15 #[v] w fun e w' => e = .returned (.tuple #[]) ∧ ∃ F : Nat → Prop, Keeps F w w' ∧ ∀ g, F g → (w1.heap.size ≤ g ∧ g < w2.heap.size) ∧ ∃ cs, Blk w g 5 cs := by
  rcases h with ⟨rfl, rfl⟩ | h
  · exact (spoil_nil w).mono fun e w' ⟨h1, h2⟩ => ⟨h1, fun _ => False, Keeps.of_below h2, fun _ h => h.elim⟩
  · refine (spoil_calls h hl).mono ?_
    rintro e w' ⟨h1, g, c, _, h2, h3, h4⟩
    exact ⟨h1, (· = g), h4, fun g' hg => by
      subst hg
      exact ⟨h2, h3⟩⟩

/-- The calls that the law makes. -/
structure KeptCalls (w0 : World) (n : Nat) (key : ByteArray) (l : List UInt8) : Prop where
  one : ∀ P, OneCalls w0 P n key l
  get : ∀ P w s d X, Box P w0 w s d X → OneHas X n key.data.toList l → Calls Try.prog 12 #[.pointer (some ⟨s, 0, none⟩), .string key] w (FetchPost w (0, l))
  snapshot : ∀ P w s d Y X, Box P w0 w s d X → OneDone Y X n key.data.toList l → isDead X.life X.disk = false → Calls Try.prog 16 #[.pointer (some ⟨s, 0, none⟩)] w fun e w' => ∃ p a mb, e = .returned (.tuple #[.pointer (some ⟨p, 0, none⟩), .int .i64 0]) ∧ SnapAt w' p s a mb (oneState n key.data.toList l) ∧ Box P w0 w' s d X.pinned ∧ Others w w'
  pget : ∀ P w s d X p a mb, Box P w0 w s d X → OneHas X n key.data.toList l → SnapAt w p s a mb (oneState n key.data.toList l) → Calls Try.prog 18 #[.pointer (some ⟨p, 0, none⟩), .string key] w (FetchPost w (0, l))
theorem kept_calls (w0 : World) {n : Nat} {key : ByteArray} {l : List UInt8} (h4 : 4 ≤ n) (h5 : n ≤ 1024) (hk0 : 0 < key.size) (hk1 : key.size ≤ 64) (hl : l.length ≤ 65536) (hr : need l.length + need (8 + key.size + 2 * need l.length) ≤ n - 3) : KeptCalls w0 n key l := by
  have hks : key.data.toList.length = key.size := Array.length_toList
  have hok : StOk n (oneState n key.data.toList l) := one_ok h4 h5 (by rw [hks]; exact hk0) (by rw [hks]; exact hk1) hl (by rw [hks]; exact hr)
  refine ⟨fun P => one_calls w0 P h4 h5 hk0 hk1 hl hr, ?_, ?_, ?_⟩
  · intro P w s d X hB hX
    have := hB.get (by rw [hX.now, hX.len]; exact hok) (by rw [hX.pend]; simp) key (by unfold maxLen; omega)
    unfold getOf at this
    rw [hX.dead, hX.get] at this
    exact this
  · intro P w s d Y X hB hX hd
    have := hB.snapshot hd (by rw [hX.pins]; simp)
    rw [hX.now] at this
    exact this
  · intro P w s d X p a mb hB hX hp
    have := hB.snap_get hp (by rw [hX.len]; exact hok) (by rw [hX.pend]; simp) key (by unfold maxLen; omega)
    rw [← hX.now] at this
    unfold getOf at this
    rw [hX.dead, hX.get] at this
    exact this

end Go.Proofs.Ytbgiklkpinflaaa

namespace Go.Proofs.Ytbgiklkpinflaaa
open Go.RowKit Go.Shelf Go.Maps
attribute [local go_sem ↓] Go.wp_at_zero Go.wp_at_succ

set_option maxRecDepth 100000 in
set_option maxHeartbeats 8000000 in
theorem kept_long (w : World) (key : ByteArray) (h64 : 64 < key.size) (n y : Nat) : Calls Try.prog 4 #[.string key, .int .u16 (n : Int), .int .u8 (y : Int)] w fun e w' => e = .returned (.bool true) ∧ Below w.heap.size w w' := by
  have HL := Lib.hid (laid_calls (P := (w.heap.size ≤ ·)) (n := 40) w (by omega) (by omega) (fun _ h => h))
  obtain ⟨hke1, hke2⟩ := key_ne (show 0 < key.size by omega)
  go_enter Try.func4, Try.ntmps4
  go_wp2_with (first
    | (go_at_call 7; refine HL.out.mono ?_; rintro e w1 ⟨g, s, r, rfl, hB1, hb1, hg1⟩; have HB1 := Lib.hid hB1; clear hB1 hb1 hg1)
    | (go_at_call 8; refine (awake_calls _).mono ?_; rintro e w2 ⟨rfl, hb2⟩; have HB2 := Lib.hid (HB1.out.below hb2); clear hb2))
  go_ret
  exact ⟨rfl, HB2.out.kept⟩

set_option maxRecDepth 100000 in
set_option maxHeartbeats 8000000 in
theorem kept_empty (w : World) (n y : Nat) : Calls Try.prog 4 #[.string ⟨#[]⟩, .int .u16 (n : Int), .int .u8 (y : Int)] w fun e w' => e = .returned (.bool true) ∧ Below w.heap.size w w' := by
  have HL := Lib.hid (laid_calls (P := (w.heap.size ≤ ·)) (n := 40) w (by omega) (by omega) (fun _ h => h))
  go_enter Try.func4, Try.ntmps4
  go_wp2_with (first
    | (go_at_call 7; refine HL.out.mono ?_; rintro e w1 ⟨g, s, r, rfl, hB1, hb1, hg1⟩; have HB1 := Lib.hid hB1; clear hB1 hb1 hg1)
    | (go_at_call 8; refine (awake_calls _).mono ?_; rintro e w2 ⟨rfl, hb2⟩; have HB2 := Lib.hid (HB1.out.below hb2); clear hb2))
  go_ret
  exact ⟨rfl, HB2.out.kept⟩

set_option maxRecDepth 100000 in
set_option maxHeartbeats 8000000 in
theorem kept_yes (w : World) (key : ByteArray) (h0 : 0 < key.size) (h64 : key.size ≤ 64) (n y : Nat) (hn : n ≤ 65535) (hy : y ≤ 255) : Calls Try.prog 4 #[.string key, .int .u16 (n : Int), .int .u8 (y : Int)] w fun e w' => e = .returned (.bool true) ∧ Below w.heap.size w w' := by
  have HL := Lib.hid (laid_calls (P := (w.heap.size ≤ ·)) (n := 40) w (by omega) (by omega) (fun _ h => h))
  have hX := NewSto.made (n := 40) (by omega)
  obtain ⟨X, hXe⟩ : ∃ X, X = (Dsk.new 40).sto := ⟨_, rfl⟩
  rw [← hXe] at HL hX
  have HX := Lib.hid hX
  have HV : Hid (∀ w : World, Calls Try.prog 14 #[.agg #[.int .u8 1, .string key, .int .u16 (n : Int), .int .u8 (y : Int)]] w fun e w' => ∃ v, e = .returned v ∧ BytesAt (w.heap.size ≤ ·) w' v (valueOf n y) ∧ Below w.heap.size w w') := fun w => value_calls w 1 key n y hn hy
  have hll : (valueOf n y).length ≤ 2047 := by rw [valueOf_length]; omega
  obtain ⟨l, hl⟩ : ∃ l, l = valueOf n y := ⟨_, rfl⟩
  rw [← hl] at HV hll
  have HK : Hid (KeptCalls w 40 key l) := kept_calls w (by omega) (by omega) h0 h64 (by omega) (by unfold need; omega)
  have HLL := Lib.hid hll
  obtain ⟨hke1, hke2⟩ := key_ne h0
  have h65 : ¬ (64 < key.size) := by omega
  clear hX hXe hl hll
  go_enter Try.func4, Try.ntmps4
  go_upto_region 5 with (first
    | (go_at_call 7; refine HL.out.mono ?_; rintro e w1 ⟨g, s, r, rfl, hB1, hb1, hg1⟩; have HB1 := Lib.hid hB1; have Hb1 := Lib.hid hb1; have HG1 := Lib.hid hg1; clear hB1 hb1 hg1))
  go_cut [10, 11] (fun s10 s11 wx => TwoAt w1 l s10 s11 wx)
  case first =>
    go_region_law
      (first
        | (go_simp; have HVA' := HVA; go_at_call 14; refine (HV.out _).mono ?_; rintro e wB ⟨vB, rfl, hvB, hbB⟩; have HVB := Lib.hid hvB; have HBB := Lib.hid hbB; clear hvB hbB)
        | (go_simp; go_at_call 14; refine (HV.out _).mono ?_; rintro e wA ⟨vA, rfl, hvA, hbA⟩; have HVA := Lib.hid hvA; have HBA := Lib.hid hbA; have hO : Blk wA w1.heap.size 42 #[.int .u8 1, .string key, .int .u16 (n : Int), .int .u8 (y : Int)] := Blk.below (w := (w1.alloc (.cells #[.int .u8 1, .string key, .int .u16 (n : Int), .int .u8 (y : Int)] 42)).drew) (Blk.new w1 _ _) hbA (Blk.lt (Blk.new w1 _ _)); have qA0 : wA.cell? ⟨w1.heap.size, 0, none⟩ = some (.int .u8 1) := hO.cell 0; have qA1 : wA.cell? ⟨w1.heap.size, 1, none⟩ = some (.string key) := hO.cell 1; have qA2 : wA.cell? ⟨w1.heap.size, 2, none⟩ = some (.int .u16 (n : Int)) := hO.cell 2; have qA3 : wA.cell? ⟨w1.heap.size, 3, none⟩ = some (.int .u8 (y : Int)) := hO.cell 3; clear hvA hbA hO))
    all_goals
      have HT := two_made (((Below.refl _ w1).alloc (Nat.le_refl _) _).drew) HVA.out HBA.out HVB.out HBB.out
      go_wp2_with fail
      go_meet
      first
        | exact HT.1
        | exact HT.2
  case rest =>
    obtain ⟨Qv, Qu, hv, hu, hqq, hqv, hqu, hbc⟩ := hcut
    have HBc := Lib.hid (HB1.out.less hbc)
    have Hbc := Lib.hid (Hb1.out.below hbc)
    have HVc := Lib.hid hv
    have HWc := Lib.hid hu
    have HQQ := Lib.hid hqq
    have HQv := Lib.hid hqv
    have HQ : Hid (∀ k, Qu k → k < wc.heap.size) := fun k hk => (hqu k hk).2
    have cc := Hbc.out.cell
    clear hv hu hqq hqv hqu hbc
    go_wp2_with (first
      | (go_at_call 8; refine (awake_calls _).mono ?_; rintro e w15 ⟨rfl, hb15⟩; have HB15 := Lib.hid (HB14.out.below hb15); clear hb15)
      | (have HX11' := HG13; go_at_call 17; refine (same_calls (conv_got HG13.out.got) (conv_bytes HW13.out)).mono ?_; rintro e w14 ⟨rfl, hb14⟩; have HB14 := Lib.hid (HB13.out.below hb14); clear hb14)
      | (go_at_call 17; refine (same_calls (conv_got HG12.out.got) (conv_bytes HW12.out)).mono ?_; rintro e w13 ⟨rfl, hb13⟩; have HB13 := Lib.hid (HB12.out.below hb13); have HG13 := Lib.hid (HH12.out.below hb13); have HW13 := Lib.hid (HW12.out.below_ hb13); clear hb13)
      | (go_at_call 18; refine (HK.out.pget _ _ _ _ _ _ _ _ HB11.out HX7.out HS11.out).mono ?_; rintro e w12 ⟨v12, rfl, hg12, hb12⟩; have HB12 := Lib.hid (HB11.out.below hb12); have HH12 := Lib.hid (GotIn.of hg12); have HG12 := Lib.hid (HG11.out.below hb12); have HW12 := Lib.hid (HW11.out.below_ hb12); clear hg12 hb12)
      | (go_at_call 12; refine (HK.out.get _ _ _ _ _ HB10.out HX7.out).mono ?_; rintro e w11 ⟨v11, rfl, hg11, hb11⟩; have HB11 := Lib.hid (HB10.out.below hb11); have HG11 := Lib.hid (GotIn.of hg11); have HS11 := Lib.hid (HS10.out.below hb11); have HW11 := Lib.hid (HW10.out.below_ hb11); clear hg11 hb11)
      | (go_at_call 15; refine (spoil_in HG9.out (by have := HLL.out; omega)).mono ?_; rintro e w10 ⟨rfl, FF, hk10, hF10⟩; have HB10 := Lib.hid (HB9.out.turned hk10 fun g hg => ⟨Nat.le_trans HB7.out.1 (hF10 g hg).1.1, less_not (hF10 g hg).1.1 (hF10 g hg).1.2, (hF10 g hg).2⟩); have Hb10 := Lib.hid (Hb9.out.turned hk10 fun g hg => (hF10 g hg).2); have HS10 := Lib.hid (HS9.out.turned hk10 fun g hg => (hF10 g hg).2); have HW10 := Lib.hid (HW9.out.keeps hk10 fun g cs hg hq _ => by have h1 := (hF10 g hg).1.1; have h2 := HQ.out g hq; have h3 := HZ7.out; omega); have c10 := Hb10.out.cell; clear hk10 hF10)
      | (go_at_call 17; refine (same_calls (conv_got HG8.out.got) (conv_bytes HW8.out)).mono ?_; rintro e w9 ⟨rfl, hb9⟩; have HB9 := Lib.hid (HB8.out.below hb9); have Hb9 := Lib.hid (Hb8.out.below hb9); have HG9 := Lib.hid (HG8.out.below hb9); have HS9 := Lib.hid (HS8.out.below hb9); have HW9 := Lib.hid (HW8.out.below_ hb9); clear hb9)
      | (go_at_call 12; refine (HK.out.get _ _ _ _ _ HB7.out HX7.out).mono ?_; rintro e w8 ⟨v8, rfl, hg8, hb8⟩; have HB8 := Lib.hid (HB7.out.less hb8); have Hb8 := Lib.hid (Hb7.out.below hb8); have HG8 := Lib.hid (GotIn.of hg8); have HS8 := Lib.hid (HS7.out.below hb8); have HW8 := Lib.hid (HW7.out.below_ hb8); have c8 := Hb8.out.cell; clear hg8 hb8)
      | (go_at_call 16; refine (HK.out.snapshot _ _ _ _ _ _ HB6.out HX6.out HD6.out).mono ?_; rintro e w7 ⟨p7, a7, mb7, rfl, hS7, hB7, hO7⟩; have HB7 := Lib.hid hB7; have HS7 := Lib.hid hS7; have HX7 := Lib.hid (HX6.out.has HD6.out).pinned; have Hb7 := Lib.hid (hO7.bench Hb6.out); have HW7 := Lib.hid (hO7.bytes HW6.out); have HZ7 := Lib.hid (Nat.le_trans HZ6.out hO7.1); have c7 := Hb7.out.cell; clear hS7 hB7 hO7)
      | (go_at_call 11; refine ((HK.out.one _).commit _ _ _ _ HB5.out HX.out).mono ?_; rintro e w6 ⟨rfl, ⟨X6, hX6, hd6, hB6⟩, hO6⟩; have HB6 := Lib.hid hB6; have HX6 := Lib.hid hX6; have HD6 := Lib.hid hd6; have Hb6 := Lib.hid (hO6.bench Hb5.out); have HW6 := Lib.hid (hO6.bytes HW5.out); have HZ6 := Lib.hid (Nat.le_trans HZ5.out hO6.1); have c6 := Hb6.out.cell; clear hB6 hX6 hd6 hO6)
      | (go_at_call 15; refine (spoil_calls HV4.out (by have := HLL.out; omega)).mono ?_; rintro e w5 ⟨rfl, gs, cs5, _, hq5, hc5, hk5⟩; have HB5 := Lib.hid (HB4.out.turned hk5 fun g hg => by subst hg; exact ⟨Nat.le_trans HB1.out.1 (HQv.out _ hq5).1, less_not (HQv.out _ hq5).1 (HQv.out _ hq5).2, hc5⟩); have Hb5 := Lib.hid (Hb4.out.turned hk5 fun g hg => by subst hg; exact hc5); have HW5 := Lib.hid (HW4.out.keeps hk5 fun g cs hg hq _ => by subst hg; exact HQQ.out _ hq5 hq); have HZ5 := Lib.hid (Nat.le_trans HZ4.out hk5.size); have c5 := Hb5.out.cell; clear hq5 hc5 hk5)
      | (go_at_call 9; refine ((HK.out.one _).put _ _ _ _ _ HB3.out HX.out ⟨_, HV3.out⟩).mono ?_; rintro e w4 ⟨rfl, hB4, hO4⟩; have HB4 := Lib.hid hB4; have Hb4 := Lib.hid (hO4.bench Hb3.out); have HV4 := Lib.hid (hO4.bytes HV3.out); have HW4 := Lib.hid (hO4.bytes HW3.out); have HZ4 := Lib.hid (Nat.le_trans HZ3.out hO4.1); have c4 := Hb4.out.cell; clear hB4 hO4)
      | (go_at_call 10; refine ((HK.out.one _).begin_ _ _ _ _ HBc.out HX.out).mono ?_; rintro e w3 ⟨rfl, hB3, hO3⟩; have HB3 := Lib.hid hB3; have Hb3 := Lib.hid (hO3.bench Hbc.out); have HV3 := Lib.hid (hO3.bytes HVc.out); have HW3 := Lib.hid (hO3.bytes HWc.out); have HZ3 := Lib.hid hO3.1; have c3 := Hb3.out.cell; clear hB3 hO3))
    go_ret
    exact ⟨rfl, HB15.out.kept⟩

end Go.Proofs.Ytbgiklkpinflaaa

namespace Go.Proofs.Ytbgiklkpinflaaa
open Go.RowKit Go.Shelf Go.Maps

theorem kept_nat (w : World) (key : ByteArray) (n y : Nat) (hn : n ≤ 65535) (hy : y ≤ 255) : Calls Try.prog 4 #[.string key, .int .u16 (n : Int), .int .u8 (y : Int)] w fun e w' => e = .returned (.bool true) ∧ Below w.heap.size w w' := by
  by_cases h2 : 64 < key.size
  · exact kept_long w key h2 n y
  · by_cases h3 : 0 < key.size
    · exact kept_yes w key h3 (by omega) n y hn hy
    · have e : key = ⟨#[]⟩ := by
        have h4 : key.data.size = 0 := by
          have : key.data.size = key.size := rfl
          omega
        cases key with
        | mk d =>
          congr 1
          exact Array.eq_empty_of_size_eq_zero h4
      rw [e]
      exact kept_empty w n y
theorem kept_all (w : World) (key : ByteArray) (a1 a2 : Int) (w1 : (Lit.int .u16 a1).wf = true) (w2 : (Lit.int .u8 a2).wf = true) : Calls Try.prog 4 #[.string key, .int .u16 a1, .int .u8 a2] w fun e w' => e = .returned (.bool true) ∧ Below w.heap.size w w' := by
  have h1 : 0 ≤ a1 ∧ a1 ≤ 65535 := by
    unfold Lit.wf at w1
    rw [Bool.and_eq_true, decide_eq_true_eq, decide_eq_true_eq, show IntKind.u16.min = 0 by rfl, show IntKind.u16.max = 65535 by rfl] at w1
    exact w1
  have h2 : 0 ≤ a2 ∧ a2 ≤ 255 := by
    unfold Lit.wf at w2
    rw [Bool.and_eq_true, decide_eq_true_eq, decide_eq_true_eq, show IntKind.u8.min = 0 by rfl, show IntKind.u8.max = 255 by rfl] at w2
    exact w2
  obtain ⟨n, rfl⟩ : ∃ n : Nat, a1 = (n : Int) := ⟨a1.toNat, by omega⟩
  obtain ⟨y, rfl⟩ : ∃ y : Nat, a2 = (y : Int) := ⟨a2.toNat, by omega⟩
  exact kept_nat w key n y (by omega) (by omega)

end Go.Proofs.Ytbgiklkpinflaaa
