/- NewDisk. -/
import Derived.Test.YtbgiklkpinflaaaSync
namespace Go.Proofs.Ytbgiklkpinflaaa
open Go.RowKit Go.Shelf
attribute [local go_sem ↓] Go.wp_at_zero Go.wp_at_succ

def zeros : List UInt8 := List.replicate 256 0
theorem zeros_length : zeros.length = 256 := List.length_replicate
theorem madeCells_one (z : Value) (n : Nat) : madeCells #[z] n = (List.replicate n z).toArray := by
  apply Array.ext
  · simp [madeCells]
  · intro i h1 h2
    simp [madeCells, Nat.mod_one]
def zcells : Array Value := (zeros.map bv).toArray
/-- make([]byte, 256). -/
theorem Try.make256 (w : World) : (Instr.makeSlice 26 (.int .i64 256) (.int .i64 256)).run Try.prog w = .ok (.slice (some ⟨w.heap.size, 0, none⟩) 256 256) (w.alloc (.cells zcells 5)) := by
  obtain ⟨i0, hi, hz0, hz1, hz2⟩ := info_parts Try.infoU8
  have h := run_makeSlice (w := w) 26 5 i0 (.int .u8 0) Try.underlying26 hi hz0 .i64 .i64 256 256 (by decide) (by decide) (by rw [hz1]; decide) (by rw [hz2]; decide) (by decide)
  rw [h, hz1]
  have e : madeCells (Value.int IntKind.u8 0).cells ((256 : Int).toNat * 1) = zcells := by
    show madeCells #[Value.int IntKind.u8 0] 256 = zcells
    rw [madeCells_one, zcells, zeros, List.map_replicate]
    rfl
  rw [e]
  rfl
theorem zcells_blk {w : World} {g : Nat} {Q : Nat → Prop} (h : Blk w g 5 zcells) (hQ : Q g) : BytesAt Q w (.slice (some ⟨g, 0, none⟩) 256 256) zeros :=
  ⟨g, 256, zcells, by rw [zeros_length], hQ, h, by rw [zeros_length]; exact Nat.le_refl _, by unfold maxLen; omega, by rw [zcells, List.size_toArray, List.length_map, zeros_length], by rw [zcells, List.take_of_length_le]; rw [List.length_map]; exact Nat.le_refl _⟩

def Dsk.new (n : Nat) : Dsk := ⟨List.replicate n zeros, [], 0, false, 0⟩

theorem Try.infoBytes : (Try.prog.info? 26).map (fun i => (i.zero, i.size, i.bytes)) = some (some (.slice none 0 0), 1, 24) := by kernel_rfl

set_option maxRecDepth 100000 in
set_option maxHeartbeats 1000000 in
theorem newDisk_bad (n : Int) (w : World) (h : n < 4 ∨ 1024 < n) :
    Calls Try.prog 19 #[.int .i64 n] w fun e w' => e = .returned (.tuple #[.pointer none, .int .i64 2]) ∧ w = w' := by
  by_cases h1 : n < 4
  all_goals
    first
      | (have h2 : decide (n < 4) = true := by simpa using h1)
      | (have h2 : decide (n < 4) = false := by simpa using h1
         have h3 : decide (1024 < n) = true := by simp; omega)
    go_enter Try.func19, Try.ntmps19
    go_wp2
    go_ret2
    exact ⟨rfl, rfl⟩

theorem alloc_new2 (w : World) (o1 o2 : Obj) : ((w.alloc o1).alloc o2).heap[w.heap.size + 1]? = some o2 := by
  have := heap_alloc_new (w.alloc o1) o2
  rwa [World.size_alloc] at this

/-- k blocks are made. -/
def Making (w : World) (k : Nat) (wr : World) : Prop :=
  ∃ sv xs, Blk wr w.heap.size 99 #[sv, .slice none 0 0, .int .i64 0, .bool false, .int .i64 0] ∧ wr.ownsRow (w.heap.size + 1) 26 1 sv k xs ∧ (∀ x ∈ xs, BytesAt (w.heap.size ≤ ·) wr x zeros) ∧ Below w.heap.size w wr

theorem making_step {w wr w3 : World} {k gg cap2 : Nat} {sv : Value} {xs : List Value} (hb : Blk wr w.heap.size 99 #[sv, .slice none 0 0, .int .i64 0, .bool false, .int .i64 0]) (hown : wr.ownsRow (w.heap.size + 1) 26 1 sv k xs) (hxs : ∀ x ∈ xs, BytesAt (w.heap.size ≤ ·) wr x zeros) (hbel : Below w.heap.size w wr) {o : Obj}
    (hown3 : w3.ownsRow (w.heap.size + 1) 26 1 (.slice (some ⟨gg, 0, none⟩) (k + 1) cap2) (k + 1) (xs ++ [.slice (some ⟨wr.heap.size, 0, none⟩) 256 256])) (hgrow : (((wr.alloc (.cells zcells 5)).alloc o).drew).grownBy w3 sv.ownBlock) (_hat : sv.ownBlock = some gg ∨ gg = wr.heap.size + 2) :
    Making w (k + 1) (w3.setCell ⟨w.heap.size, 0, none⟩ (.slice (some ⟨gg, 0, none⟩) (k + 1) cap2)) := by
  have hne : sv.ownBlock ≠ some w.heap.size := own_blk_ne hown hb (by decide)
  have hlt := hb.lt
  have B3 : Blk w3 w.heap.size _ _ := Blk.grown (((hb.alloc (.cells zcells 5)).alloc o).drew) hgrow hne
  have hz : Blk (((wr.alloc (.cells zcells 5)).alloc o).drew) wr.heap.size 5 zcells := ((Blk.new wr _ zcells).alloc o).drew
  have hne2 : gg ≠ w.heap.size := fun e => own_blk_ne hown3 B3 (by decide) (by simp [Value.ownBlock, e])
  have k3 : Keeps (fun k => sv.ownBlock = some k) wr w3 := (((Keeps.refl _ wr).alloc _).alloc _).drew.grown hgrow (fun g h _ => h)
  have kz : Keeps (fun k => sv.ownBlock = some k) (((wr.alloc (.cells zcells 5)).alloc o).drew) w3 := (Keeps.refl _ _).grown hgrow (fun g h _ => h)
  have hu : ∀ {u : World} {g : Nat} {cs : Array Value}, u.ownsRow (w.heap.size + 1) 26 1 sv k xs → sv.ownBlock = some g → Blk u g 5 cs → False := fun h e hk => own_blk_ne h hk (by decide) e
  have k4 := Keeps.set1 w3 w.heap.size 0 (.slice (some ⟨gg, 0, none⟩) (k + 1) cap2)
  refine ⟨_, _, B3.set_ 0 _, ownsRow_keeps hown3 k4 (fun g hg e => by simp [Value.ownBlock] at hg; omega), ?_, ?_⟩
  · intro x hx
    have hy : BytesAt (w.heap.size ≤ ·) w3 x zeros := by
      rcases List.mem_append.1 hx with h | h
      · exact (hxs x h).keeps k3 (fun g cs e _ hk => hu hown e hk)
      · simp only [List.mem_singleton] at h
        subst h
        exact (zcells_blk hz hbel.size).keeps kz (fun g cs e _ hk => hu (((hown.alloc _).alloc _).drew) e hk)
    exact hy.keeps k4 (fun g cs e _ hk => by subst e; exact Blk.ne_ hk B3 (by decide) rfl)
  · exact (((((hbel.alloc hbel.size _).alloc (by simp; omega) o).drew_).grown hgrow (by simp; omega) (fun g e => by
      rcases hown.2 with ⟨hv, _⟩ | ⟨g', cap, cur, hv, hbb, _⟩
      · rw [hv] at e
        simp [Value.ownBlock] at e
      · rw [hv] at e
        simp [Value.ownBlock] at e
        omega))).setCell (p := ⟨w.heap.size, 0, none⟩) (Nat.le_refl _) _

theorem making_end {P : Nat → Prop} {w wr : World} {n : Nat} (hP : ∀ k, w.heap.size ≤ k → P k) (h0 : 0 < n) (h2 : n ≤ 1024) (h : Making w n wr) : ∃ S, DiskAt P wr w.heap.size (Dsk.new n) S ∧ ∀ k ∈ S, w.heap.size ≤ k := by
  obtain ⟨sv, xs, hb, hown, hxs, hbel⟩ := h
  have hl := hown.1
  rcases hown.2 with ⟨_, h0', _⟩ | ⟨g, cap, cur, rfl, hbb, hg, hnc, hcm, hcs, ht⟩
  · omega
  · have hcs' : cur.size = cap := by simpa using hcs
    subst hcs'
    refine ⟨[w.heap.size, g], ⟨⟨?_, fun p hp => by simp [Dsk.new] at hp, by simpa [Dsk.new] using h0, by simpa [Dsk.new] using h2, by simp [Dsk.new]⟩, g, cur, .slice none 0 0, [], rfl, ?_⟩, ?_⟩
    · intro l hl
      simp only [Dsk.new, List.mem_replicate] at hl
      rw [hl.2, zeros_length]
    · refine ⟨by simpa [Dsk.new] using hb, hg, by simpa [Dsk.new] using hnc, ?_, ⟨rfl, .inl ⟨rfl, rfl⟩⟩, rfl, fun j p hj => by simp [Dsk.new] at hj, fun k hk => hP k (Nat.le_trans hbel.size hk)⟩
      intro i l hi
      have hi' : i < n ∧ l = zeros := by
        simp only [Dsk.new, List.getElem?_replicate] at hi
        split at hi
        · rename_i hlt
          exact ⟨hlt, by simpa using hi.symm⟩
        · cases hi
      obtain ⟨hin, rfl⟩ := hi'
      have hxi : i < xs.length := by omega
      have e1 : cur[i]? = some xs[i] := by
        have : (cur.toList.take (n * 1))[i]? = some xs[i] := by rw [ht]; exact List.getElem?_eq_getElem hxi
        rw [List.getElem?_take, if_pos (by omega)] at this
        simpa using this
      exact ⟨_, e1, (hxs _ (List.getElem_mem hxi)).mono hP⟩
    · intro k hk
      simp only [List.mem_cons, List.not_mem_nil, or_false] at hk
      rcases hk with rfl | rfl <;> omega

set_option maxRecDepth 100000 in
set_option maxHeartbeats 2000000 in
theorem newDisk_good (P : Nat → Prop) (n : Nat) (w : World) (h1 : 4 ≤ n) (h2 : n ≤ 1024) (hP : ∀ k, w.heap.size ≤ k → P k) :
    Calls Try.prog 19 #[.int .i64 (n : Int)] w fun e w' => e = .returned (.tuple #[.pointer (some ⟨w.heap.size, 0, none⟩), .int .i64 0]) ∧ (∃ S, DiskAt P w' w.heap.size (Dsk.new n) S ∧ ∀ k ∈ S, w.heap.size ≤ k) ∧ Below w.heap.size w w' := by
  have t1 : decide ((n : Int) < 4) = false := by simp; omega
  have t2 : decide ((1024 : Int) < n) = false := by simp; omega
  obtain ⟨iw, hiw, hz0, hz1, hz2⟩ := info_parts Try.infoBytes
  have hmk := Try.make256
  go_enter Try.func19, Try.ntmps19
  go_wp2
  go_loopw [14] (fun i wr => ∃ k : Nat, k ≤ n ∧ i = .int .i64 k ∧ Making w k wr) (fun i _ => n - (intOf i).toNat)
  case atStart => exact ⟨0, Nat.zero_le _, rfl, .slice none 0 0, [], Blk.new _ _ _, ⟨rfl, .inl ⟨rfl, rfl⟩⟩, by simp, (Below.refl _ _).alloc (Nat.le_refl _) _⟩
  case round =>
    obtain ⟨k, hk, rfl, hM⟩ := hrel
    by_cases hlt : k < n
    · obtain ⟨sv, xs, hb, hown, hxs, hbel⟩ := hM
      have c0 := hb.cell 0
      have f0 := hb.frozen 0
      have hsz0 := hb.lt
      have HN := Lib.hid (fun o1 o2 => alloc_new2 wr o1 o2)
      have hne : sv.ownBlock ≠ some w.heap.size := own_blk_ne hown hb (by decide)
      go_wp2
      go_region_law
        (refine step_append_lies _ (by rfl) _ _ _ (by rfl) (w.heap.size + 1) 26 iw _ 1 24 Try.underlying96 hiw hz0 hz1 hz2 rfl (by omega) sv k xs (by rfl) ?_
            ⟨wr.heap.size + 1, 0, none⟩ 1 1 [.slice (some ⟨wr.heap.size, 0, none⟩) 256 256] (by rfl) (by rfl) ?_ (by simp [Value.oneCell'])
            (by omega) (by unfold maxLen; omega) (by omega) ?_ (wr.heap.size + 2) ?_ ?_; exact ((hown.alloc _).alloc _).drew; exact World.news_of_block (cs := #[.slice (some ⟨wr.heap.size, 0, none⟩) 256 256]) (t := 26) (fr := (0, 0)) (HN.out _ _); (simp; omega); simp; intro gg cap2 w3 hown3 hgrow hat hlt3; have B3 := Blk.grown (((hb.alloc _).alloc _).drew) hgrow hne; have hc3 : w3.cell? ⟨w.heap.size, 0, none⟩ = some sv := B3.cell 0; have hf3 := B3.frozen 0)
      all_goals
        go_wp2
        go_roundw
        case rel => exact ⟨k + 1, by omega, by go_num, making_step hb hown hxs hbel hown3 hgrow hat⟩
        case measure => simp [intOf]; omega
    · obtain rfl : k = n := by omega
      go_wp2
      go_ret2
      refine ⟨rfl, making_end hP (by omega) h2 hM, ?_⟩
      obtain ⟨_, _, _, _, _, hbel⟩ := hM
      exact hbel

end Go.Proofs.Ytbgiklkpinflaaa
