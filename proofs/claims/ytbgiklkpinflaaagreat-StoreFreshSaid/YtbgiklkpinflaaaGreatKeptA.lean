/- value, same. -/
import Derived.Test.YtbgiklkpinflaaaGreatLaw
import Derived.Laws.BytesArg
import Derived.IntWalk
import Derived.Test.YtbgiklkpinflaaaGreatSnapA
import Derived.Deep.DeepCutAuto

namespace Go.Proofs.YtbgiklkpinflaaaGreat
open Go.RowKit Go.Shelf Go.Maps
attribute [local go_sem ↓] Go.wp_at_zero Go.wp_at_succ

theorem nums_str (l : List UInt8) : strOfNums (l.map fun b => (b.toNat : Int)) = ⟨l.toArray⟩ := by
  have e : ((l.map fun b => (b.toNat : Int)).map fun n => UInt8.ofNat n.toNat) = l := by
    induction l with
    | nil => rfl
    | cons x r ih =>
      rw [List.map_cons, List.map_cons, ih]
      simp
  unfold strOfNums
  rw [e]
/-- string(b). -/
theorem conv_bytes {P : Nat → Prop} {w : World} {v : Value} {l : List UInt8} (h : BytesAt P w v l) : (convert 89 9 v).run Tryz.prog w = .ok (.string ⟨l.toArray⟩) w := by
  obtain ⟨g, cap, cur, rfl, _, _, _, hc⟩ := h.cells
  have h1 := run_convert_bytes_arg (P := Tryz.prog) w 89 5 Tryz.underlying89 Tryz.underlying5 g 0 l.length cap (l.map fun b => (b.toNat : Int)) (by simp) (fun i hi => by
    rw [hc i (.int .u8 (l[i].toNat : Int)) (by simp [bv, hi])]
    simp [hi]) 9 Tryz.underlying9
  rw [h1, nums_str]
theorem conv_got {B : Nat} {w : World} {v : Value} {l : List UInt8} (h : Got B w v l) : (convert 89 9 v).run Tryz.prog w = .ok (.string ⟨l.toArray⟩) w := by
  rcases h with ⟨rfl, rfl⟩ | h
  · exact run_convert_bytes_nil (P := Tryz.prog) w 89 5 Tryz.underlying89 Tryz.underlying5 0 0 9 Tryz.underlying9
  · exact conv_bytes h

set_option maxRecDepth 100000 in
set_option maxHeartbeats 4000000 in
theorem same_calls {w : World} {v1 v2 : Value} {l : List UInt8} (h1 : (convert 89 9 v1).run Tryz.prog w = .ok (.string ⟨l.toArray⟩) w) (h2 : (convert 89 9 v2).run Tryz.prog w = .ok (.string ⟨l.toArray⟩) w) :
    Calls Tryz.prog 58 #[v1, v2] w fun e w' => e = .returned (.bool true) ∧ Below w.heap.size w w' := by
  obtain ⟨z, hz⟩ : ∃ z : ByteArray, z = ⟨l.toArray⟩ := ⟨_, rfl⟩
  rw [← hz] at h1 h2
  clear hz
  go_enter Tryz.func58, Tryz.ntmps58
  go_wp2
  go_ret
  refine ⟨?_, Below.refl _ _⟩
  simp

end Go.Proofs.YtbgiklkpinflaaaGreat


namespace Go.Proofs.YtbgiklkpinflaaaGreat
open Go.RowKit Go.Shelf Go.Maps
attribute [local go_sem ↓] Go.wp_at_zero Go.wp_at_succ

def valueOf (n y : Nat) : List UInt8 := (List.range (n % 2048)).map fun i => UInt8.ofNat ((y + i) % 256)
theorem valueOf_length (n y : Nat) : (valueOf n y).length = n % 2048 := by simp [valueOf]
/-- k of the bytes are set. -/
def vcells (m y k : Nat) : Array Value := ((List.range m).map fun i => if i < k then Value.int .u8 (((y + i) % 256 : Nat) : Int) else .int .u8 0).toArray
theorem vcells_size (m y k : Nat) : (vcells m y k).size = m := by simp [vcells]
theorem vcells_get {m y k i : Nat} (h : i < m) : (vcells m y k)[i]? = some (if i < k then Value.int .u8 (((y + i) % 256 : Nat) : Int) else .int .u8 0) := by simp [vcells, h]
theorem vcells_set {m y k : Nat} (_h : k < m) : (vcells m y k).setIfInBounds k (.int .u8 (((y + k) % 256 : Nat) : Int)) = vcells m y (k + 1) := by
  apply Array.ext
  · simp [vcells]
  · intro i h1 h2
    have hi : i < m := by simpa [vcells] using h2
    rw [Array.getElem_setIfInBounds (by simpa [vcells] using h2)]
    by_cases e : k = i
    · subst e
      simp [vcells]
    · rw [if_neg e]
      have e2 : (i < k + 1) ↔ (i < k) := by omega
      simp [vcells, e2]
theorem vcells_bytes (n y : Nat) : (vcells (n % 2048) y (n % 2048)).toList = (valueOf n y).map bv := by
  unfold vcells valueOf
  rw [List.map_map]
  refine List.map_congr_left fun i hi => ?_
  rw [if_pos (List.mem_range.1 hi)]
  show _ = Value.int .u8 ((UInt8.ofNat ((y + i) % 256)).toNat : Int)
  rw [UInt8.toNat_ofNat']
  simp
/-- k of the bytes are made. -/
def Valuing (w : World) (m y k : Nat) (kd : Int) (key : ByteArray) (n : Nat) (wr : World) : Prop :=
  Blk wr w.heap.size 29 #[.int .u8 kd, .string key, .int .u16 (n : Int), .int .u8 (y : Int)] ∧ Blk wr (w.heap.size + 1) 5 (vcells m y k) ∧ Below w.heap.size w wr
theorem Valuing.set {w wr : World} {m y k : Nat} {kd : Int} {key : ByteArray} {n : Nat} (h : Valuing w m y k kd key n wr) (hk : k < m) {x : Int} (hx : x = (((y + k) % 256 : Nat) : Int)) : Valuing w m y (k + 1) kd key n (wr.setCell ⟨w.heap.size + 1, k, none⟩ (.int .u8 x)) := by
  subst hx
  refine ⟨h.1.far (p := ⟨w.heap.size + 1, k, none⟩) (by simp) _, ?_, h.2.2.setCell (p := ⟨w.heap.size + 1, k, none⟩) (by simp) _⟩
  rw [← vcells_set hk]
  exact h.2.1.set_ k _
theorem Valuing.end_ {w wr : World} {y : Nat} {kd : Int} {key : ByteArray} {n : Nat} (h : Valuing w (n % 2048) y (n % 2048) kd key n wr) : BytesAt (w.heap.size ≤ ·) wr (.slice (some ⟨w.heap.size + 1, 0, none⟩) (n % 2048) (n % 2048)) (valueOf n y) := by
  refine ⟨w.heap.size + 1, n % 2048, _, by rw [valueOf_length], by omega, h.2.1, by rw [valueOf_length]; exact Nat.le_refl _, by unfold maxLen; omega, vcells_size _ _ _, ?_⟩
  rw [valueOf_length, vcells_bytes, List.take_of_length_le]
  rw [List.length_map, valueOf_length]
  exact Nat.le_refl _

set_option maxRecDepth 100000 in
set_option maxHeartbeats 4000000 in
theorem value_calls (w : World) (kd : Int) (key : ByteArray) (n y : Nat) (hn : n ≤ 65535) (hy : y ≤ 255) :
    Calls Tryz.prog 51 #[.agg #[.int .u8 kd, .string key, .int .u16 (n : Int), .int .u8 (y : Int)]] w fun e w' => ∃ v, e = .returned v ∧ BytesAt (w.heap.size ≤ ·) w' v (valueOf n y) ∧ Below w.heap.size w w' := by
  obtain ⟨m, hm⟩ : ∃ m, m = n % 2048 := ⟨_, rfl⟩
  have hm2 : m ≤ 2047 := by omega
  obtain ⟨L, Z, hZ, hmk, hby⟩ : ∃ (L : Array Value) (Z : Unit), L = vcells m y 0 ∧ (∀ w : World, (Instr.makeSlice 89 (.int .i64 (m : Int)) (.int .i64 (m : Int))).run Tryz.prog w = .ok (.slice (some ⟨w.heap.size, 0, none⟩) m m) (w.alloc (.cells L 5))) ∧ True := by
    refine ⟨_, (), ?_, Tryz.makeU8 m (by omega), trivial⟩
    unfold vcells
    congr 1
    rw [List.map_replicate]
    apply List.ext_getElem
    · simp
    · intro i h1 h2
      simp [bv]
  have hmod : (n : Int) % 2048 = (m : Int) := by omega
  have HK := Lib.hid hm
  clear hm
  clear hby
  go_enter Tryz.func51, Tryz.ntmps51
  have HL := Lib.hid hZ
  clear hZ
  go_wp2
  go_loopw [4, 12] (fun _ i wr => ∃ k : Nat, k ≤ m ∧ i = .int .i64 k ∧ Valuing w m y k kd key n wr) (fun _ i _ => m - (intOf i).toNat)
  case atStart =>
    refine ⟨0, Nat.zero_le _, rfl, (Blk.new w _ _).alloc _, ?_, ((Below.refl _ w).alloc (Nat.le_refl _) _).alloc (by simp) _⟩
    rw [← HL.out]
    have := Blk.new (w.alloc (.cells #[.int .u8 kd, .string key, .int .u16 (n : Int), .int .u8 (y : Int)] 29)) 5 L
    rwa [World.size_alloc] at this
  case round =>
    obtain ⟨k, hk, rfl, hM⟩ := hrel
    by_cases hlt : k < m
    · have tk : decide ((k : Int) < m) = true := by simp; omega
      have q0 : wr.cell? ⟨w.heap.size, 3, none⟩ = some (.int .u8 (y : Int)) := hM.1.cell 3
      have q1 : wr.cell? ⟨w.heap.size + 1, k, none⟩ = some (.int .u8 0) := (hM.2.1.cell k).trans ((vcells_get hlt).trans (by rw [if_neg (Nat.lt_irrefl _)]))
      have q2 := hM.2.1.frozen k
      have HM := Lib.hid hM
      clear hM
      go_wp2
      go_roundw
      case rel =>
        refine ⟨k + 1, by omega, by go_num, HM.out.set hlt ?_⟩
        omega
      case measure => simp [intOf]; omega
    · obtain rfl : k = m := by omega
      have tk : decide ((k : Int) < k) = false := by simp
      have HM := Lib.hid hM
      clear hM
      go_wp2
      go_ret
      have := HM.out
      have e := HK.out
      subst e
      exact ⟨_, rfl, this.end_, this.2.2⟩

theorem BytesAt.lt_ {Q : Nat → Prop} {w : World} {v : Value} {l : List UInt8} (h : BytesAt Q w v l) : BytesAt (fun k => Q k ∧ k < w.heap.size) w v l := by
  obtain ⟨g, cap, cur, hv, hp, hk, r⟩ := h
  exact ⟨g, cap, cur, hv, ⟨hp, hk.lt⟩, hk, r⟩
theorem BytesAt.below_ {Q : Nat → Prop} {w w' : World} {v : Value} {l : List UInt8} (h : BytesAt Q w v l) (hb : Below w.heap.size w w') : BytesAt Q w' v l := h.keeps (Keeps.of_below (F := fun _ => False) hb) (fun _ _ h => h.elim)

theorem Blk.setCells {g : Nat} {t : TypeId} : ∀ (vs : List Value) (o : Nat) {w : World} {cs : Array Value}, Blk w g t cs → ∃ cs', Blk (w.setCells g o vs) g t cs' ∧ cs'.size = cs.size ∧ ∀ k, k < o → cs'[k]? = cs[k]?
  | [], _, _, cs, h => ⟨cs, h, rfl, fun _ _ => rfl⟩
  | v :: r, o, w, cs, h => by
    obtain ⟨cs', h1, h2, h3⟩ := Blk.setCells r (o + 1) (h.set_ o v)
    refine ⟨cs', h1, by simpa using h2, fun k hk => ?_⟩
    rw [h3 k (by omega), Array.getElem?_setIfInBounds_ne (by omega)]
theorem Keeps.setCells (g : Nat) : ∀ (vs : List Value) (o : Nat) (w : World), Keeps (· = g) w (w.setCells g o vs)
  | [], _, w => Keeps.refl _ w
  | v :: r, o, w => (Keeps.set1 w g o v).trans (Keeps.setCells g r (o + 1) _) (fun _ _ h => h)
end Go.Proofs.YtbgiklkpinflaaaGreat
