/- The checksum. -/
import Derived.Test.YtbgiklkpinflaaaGreatDiskB
import Derived.Laws.CopyOwn
namespace Go.Proofs.YtbgiklkpinflaaaGreat
open Go.RowKit Go.Shelf

theorem ret_int {k : IntKind} {a b : Int} (h : a = b) : Ending.returned (.int k a) = .returned (.int k b) := by rw [h]

set_option maxHeartbeats 1000000 in
theorem rev_const (w : World) : Calls Tryz.prog 139 #[.int .u32 79764919] w fun e w' => e = .returned (.int .u32 3988292384) ∧ w = w' := by
  go_enter Tryz.func139, Tryz.ntmps139
  go_wp2_with (go_in)
  go_ret
  exact ⟨ret_int (by kernel_rfl), rfl⟩

def stp (x : Int) : Int := bits BinOp.xor IntKind.u32 (x / 2) (3988292384 * bits BinOp.and IntKind.u32 x 1 % 4294967296)
def stps : Nat → Int → Int
  | 0, x => x
  | n + 1, x => stp (stps n x)
theorem stps_le (n : Nat) (x : Int) (h0 : 0 ≤ x) (h1 : x ≤ 4294967295) : 0 ≤ stps n x ∧ stps n x ≤ 4294967295 := by
  cases n with
  | zero => exact ⟨h0, h1⟩
  | succ n =>
    unfold stps stp
    exact ⟨bits_lo_u32 _ _ _, bits_hi_u32 _ _ _⟩
def tb (i : Nat) : Int := stps 8 i
def tcells (k : Nat) : Array Value := (Array.range 256).map fun j => .int .u32 (if j < k then tb j else 0)

theorem tcells_size (k : Nat) : (tcells k).size = 256 := by simp [tcells]
theorem tcells_set (k : Nat) : (tcells k).setIfInBounds k (.int .u32 (tb k)) = tcells (k + 1) := by
  apply Array.ext
  · simp [tcells]
  · intro i h1 h2
    rw [Array.getElem_setIfInBounds (by simpa using h1)]
    by_cases e : k = i
    · subst e
      simp [tcells]
    · rw [if_neg e]
      simp only [tcells, Array.getElem_map, Array.getElem_range]
      congr 1
      by_cases hi : i < k
      · rw [if_pos hi, if_pos (by omega)]
      · rw [if_neg hi, if_neg (by omega)]
theorem tcells_get (k i : Nat) (h : i < 256) : (tcells k)[i]? = some (.int .u32 (if i < k then tb i else 0)) := by
  rw [Array.getElem?_eq_getElem (by rw [tcells_size]; exact h)]
  simp [tcells]

theorem Tryz.sizeTab : (Tryz.prog.info? 185).map (·.size) = some 256 := by kernel_rfl

theorem tcells_one : (tcells 256).all (·.oneCell') = true := by
  rw [Array.all_eq_true_iff_forall_mem]
  intro x hx
  simp only [tcells, Array.mem_map] at hx
  obtain ⟨j, _, rfl⟩ := hx
  rfl

/-- k entries of the table are made. -/
def Tabling (w : World) (k : Nat) (wr : World) : Prop := Blk wr (w.heap.size + 1) 185 (tcells k) ∧ (∃ cs, Blk wr w.heap.size 185 cs ∧ cs.size = 256) ∧ Below w.heap.size w wr

set_option maxRecDepth 100000 in
set_option maxHeartbeats 2000000 in
theorem table_calls (w : World) : Calls Tryz.prog 131 #[] w fun e w' => e = .returned (.agg (tcells 256)) ∧ Below w.heap.size w w' := by
  go_enter Tryz.func131, Tryz.ntmps131
  go_wp2
  go_loopw [4] (fun i wr => ∃ k : Nat, k ≤ 256 ∧ i = .int .i64 k ∧ Tabling w k wr) (fun i _ => 256 - (intOf i).toNat)
  case atStart =>
    refine ⟨0, Nat.zero_le _, rfl, ?_, ?_, ((Below.refl _ _).alloc (Nat.le_refl _) _).alloc (by simp) _⟩
    · have e : Tryz.zeroCells185 = tcells 0 := by kernel_rfl
      rw [← e]
      have := Blk.new (w.alloc (.cells Tryz.zeroCells185 185)) 185 Tryz.zeroCells185
      rwa [World.size_alloc] at this
    · exact ⟨_, (Blk.new w _ _).alloc _, by kernel_rfl⟩
  case round =>
    obtain ⟨k, hk, rfl, hT⟩ := hrel
    by_cases hlt : k < 256
    · obtain ⟨hb, hc, hB⟩ := hT
      have tk : decide ((k : Int) < 256) = true := by simp; omega
      have q1 : wr.cell? ⟨w.heap.size + 1, k, none⟩ = some (.int .u32 (if k < k then tb k else 0)) := (hb.cell k).trans (tcells_get k k hlt)
      rw [if_neg (Nat.lt_irrefl _)] at q1
      have q2 := hb.frozen k
      go_wp2
      obtain ⟨wo, rfl⟩ : ∃ wo : World, wo = wr := ⟨_, rfl⟩
      go_loop [3, 9] (fun x i => ∃ m : Nat, m ≤ 8 ∧ i = .int .i64 m ∧ x = .int .u32 (stps m k)) (fun _ i => 8 - (intOf i).toNat)
      case atStart => exact ⟨0, Nat.zero_le _, rfl, rfl⟩
      case round =>
        obtain ⟨m, hm, rfl, rfl⟩ := hrel
        obtain ⟨x, hx⟩ : ∃ x, x = stps m k := ⟨_, rfl⟩
        have hxl := stps_le m k (by omega) (by omega)
        rw [← hx] at hxl ⊢
        obtain ⟨hx0, hx1⟩ := hxl
        have HX := Lib.hid hx
        clear hx
        by_cases hlm : m < 8
        · have tm : decide ((m : Int) < 8) = true := by simp; omega
          go_wp2_with (go_at_call 139; refine (rev_const _).mono ?_; rintro e w' ⟨rfl, rfl⟩)
          go_round
          case rel => exact ⟨m + 1, by omega, by go_num, by rw [HX.out]; rfl⟩
          case measure => simp [intOf]; omega
        · obtain rfl : m = 8 := by omega
          go_wp2
          refine ⟨⟨k + 1, by omega, by go_num, ?_, ?_, hB.setCell (p := ⟨w.heap.size + 1, k, none⟩) (by simp) _⟩, by simp [intOf]; omega⟩
          · have := hb.set_ k (.int .u32 x)
            rw [HX.out] at this ⊢
            rw [← tcells_set k]
            exact this
          · obtain ⟨cs, h1, h2⟩ := hc
            exact ⟨cs, h1.far (p := ⟨w.heap.size + 1, k, none⟩) (by simp) _, h2⟩
    · obtain rfl : k = 256 := by omega
      obtain ⟨hb, ⟨cs, hc, hcs⟩, hB⟩ := hT
      go_wp2
      refine wp_load_row _ _ rfl (w.heap.size + 1) rfl 185 (tcells 256) (0, 0) _ hb Tryz.underlying185 rfl (by rw [tcells_size]; exact Tryz.sizeTab) ?_
      have h1 : (tcells 256).all (·.oneCell') = true := tcells_one
      have H1 := Lib.hid h1
      have HS := Lib.hid (hcs.trans (tcells_size 256).symm)
      have HC := Lib.hid hc
      clear h1 hcs
      go_wp2_with (refine wpList_store_row rfl _ _ _ rfl w.heap.size (tcells 256) rfl rfl 185 cs HC.out (by rw [tcells_size]; exact Tryz.sizeTab) HS.out H1.out ?_)
      refine bodyPost_ret (v := .agg (tcells 256)) ?_ rfl ⟨rfl, ?_⟩
      · exact results_cell_row rfl _ _ w.heap.size 185 (tcells 256) (0, 0) _ rfl (setRow_heap _ _ _ _ _ _ HC.out) Tryz.underlying185 rfl (by rw [tcells_size]; exact Tryz.sizeTab)
      · exact below_setRow hB (Nat.le_refl _) _

def crcStep (s : Int) (x : UInt8) : Int := bits BinOp.xor IntKind.u32 (tb (bits BinOp.xor IntKind.u8 (s % 256) (x.toNat : Int)).toNat) (s / 256)
def crcs (l : List UInt8) : Int := l.foldl crcStep 4294967295
theorem crcs_le (l : List UInt8) : 0 ≤ crcs l ∧ crcs l ≤ 4294967295 := by
  rcases List.eq_nil_or_concat l with rfl | ⟨l', x, rfl⟩
  · exact ⟨by decide, by decide⟩
  · unfold crcs
    rw [List.concat_eq_append, List.foldl_append]
    simp only [List.foldl_cons, List.foldl_nil]
    unfold crcStep
    exact ⟨bits_lo_u32 _ _ _, bits_hi_u32 _ _ _⟩
theorem crcs_take (l : List UInt8) {k : Nat} (hk : k < l.length) : crcs (l.take (k + 1)) = crcStep (crcs (l.take k)) l[k] := by
  rw [List.take_succ_eq_append_getElem hk, crcs, List.foldl_append]
  rfl
def crc (l : List UInt8) : Int := bits BinOp.xor IntKind.u32 IntKind.u32.max (crcs l)
theorem crc_le (l : List UInt8) : 0 ≤ crc l ∧ crc l ≤ 4294967295 := ⟨bits_lo_u32 _ _ _, bits_hi_u32 _ _ _⟩

set_option maxRecDepth 100000 in
set_option maxHeartbeats 2000000 in
/-- codec.Checksum. -/
theorem checksum_calls (A : Option Addr) (n c : Nat) (l : List UInt8) (w : World) (hn : n = l.length) (hle : l.length ≤ 1000000000) (hc : 0 < l.length → ∃ g o, A = some ⟨g, o, none⟩ ∧ Cells w g o (l.map bv)) :
    Calls Tryz.prog 112 #[.slice A n c] w fun e w' => e = .returned (.int .u32 (crc l)) ∧ Below w.heap.size w w' := by
  subst hn
  go_enter Tryz.func112, Tryz.ntmps112
  have h1 : (tcells 256).all (·.oneCell') = true := tcells_one
  have H1 := Lib.hid h1
  have HS : Hid (Tryz.zeroCells185.size = (tcells 256).size) := by rw [tcells_size]; exact (by kernel_rfl : Tryz.zeroCells185.size = 256)
  clear h1
  have HC := Lib.hid hc
  clear hc
  go_wp2_with (first
    | (go_at_call 131; refine (table_calls _).mono ?_; rintro e w1 ⟨rfl, hbel⟩)
    | (refine wpList_store_row rfl _ _ _ rfl w1.heap.size (tcells 256) rfl rfl 185 Tryz.zeroCells185 (heap_alloc_new _ _) (by rw [tcells_size]; exact Tryz.sizeTab) HS.out H1.out ?_))
  have B1 : Blk ((w1.alloc (.cells Tryz.zeroCells185 185)).setRow w1.heap.size (tcells 256)) w1.heap.size 185 (tcells 256) := setRow_heap _ _ _ _ _ _ (heap_alloc_new _ _)
  have hB : Below w.heap.size w ((w1.alloc (.cells Tryz.zeroCells185 185)).setRow w1.heap.size (tcells 256)) := below_setRow (hbel.alloc hbel.size _) hbel.size _
  generalize ((w1.alloc (.cells Tryz.zeroCells185 185)).setRow w1.heap.size (tcells 256)) = W at B1 hB ⊢
  generalize w1.heap.size = g at B1 ⊢
  have hmx : l.length ≤ 9223372036854775807 := by omega
  go_loop [4, 10] (fun x i => ∃ k : Nat, k ≤ l.length ∧ i = .int .i64 k ∧ x = .int .u32 (crcs (l.take k))) (fun _ i => l.length - (intOf i).toNat)
  case atStart => exact ⟨0, Nat.zero_le _, rfl, rfl⟩
  case round =>
    obtain ⟨k, hk, rfl, rfl⟩ := hrel
    obtain ⟨x, hx⟩ : ∃ x, x = crcs (l.take k) := ⟨_, rfl⟩
    have hxl := crcs_le (l.take k)
    rw [← hx] at hxl ⊢
    obtain ⟨hx0, hx1⟩ := hxl
    have HX := Lib.hid hx
    clear hx
    by_cases hlk : k < l.length
    · obtain ⟨gb, ob, rfl, hcl⟩ := HC.out (by omega)
      have q1 : W.cell? ⟨gb, ob + k, none⟩ = some (.int .u8 (l[k].toNat : Int)) := by
        have e : (l.map bv)[k]? = some (bv l[k]) := by simp [hlk]
        exact (hB.cell (p := ⟨gb, ob + k, none⟩) (World.block_lt_of_cell? w _ (hcl k _ e))).trans (hcl k _ e)
      have ub : (l[k].toNat : Int) ≤ 255 := by have := l[k].toNat_lt; omega
      obtain ⟨y, hy⟩ : ∃ y, y = l[k] := ⟨_, rfl⟩
      rw [← hy] at q1 ub
      have HY := Lib.hid hy
      clear hy hcl
      have i0 := bits_lo_u8 BinOp.xor (x % 256) (y.toNat : Int)
      have i1 : bits BinOp.xor IntKind.u8 (x % 256) (y.toNat : Int) < 256 := by have := bits_hi_u8 BinOp.xor (x % 256) (y.toNat : Int); omega
      have q2 : W.cell? ⟨g, (bits BinOp.xor IntKind.u8 (x % 256) (y.toNat : Int)).toNat, none⟩ = some (.int .u32 (tb (bits BinOp.xor IntKind.u8 (x % 256) (y.toNat : Int)).toNat)) := by
        have hlt : (bits BinOp.xor IntKind.u8 (x % 256) (y.toNat : Int)).toNat < 256 := by omega
        rw [B1.cell, tcells_get _ _ hlt, if_pos hlt]
      go_wp2
      refine ⟨⟨k + 1, by omega, by go_num, ?_⟩, by simp [intOf]; omega⟩
      rw [crcs_take l hlk, HX.out, HY.out]
      rfl
    · obtain rfl : k = l.length := by omega
      go_wp2
      go_ret
      refine ⟨?_, hB⟩
      rw [HX.out, List.take_length]
      rfl

end Go.Proofs.YtbgiklkpinflaaaGreat
