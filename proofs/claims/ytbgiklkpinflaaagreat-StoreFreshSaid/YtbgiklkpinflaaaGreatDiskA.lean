/- The disk: its small functions. The disk as data, and how it lies in memory. (*Disk).fails and Write. (*Disk).Write. -/
import Derived.Test.YtbgiklkpinflaaaGreatMem
import Derived.Test.YtbgiklkpinflaaaGreatBytes

namespace Go.Proofs.YtbgiklkpinflaaaGreat
open Go.RowKit

set_option maxHeartbeats 400000 in
theorem none_nil (w : World) : Calls Tryz.prog 79 #[.pointer none] w fun e w' => e = .returned (.bool true) ∧ w = w' := by
  go_enter Tryz.func79, Tryz.ntmps79
  go_wp2
  go_ret
  exact ⟨rfl, rfl⟩

set_option maxHeartbeats 400000 in
theorem none_not (b n c : Nat) (A : Option Addr) (w : World) (h0 : w.cell? ⟨b, 0, none⟩ = some (.slice A n c)) (hn : 0 < n) (hm : n ≤ 1024) :
    Calls Tryz.prog 79 #[.pointer (some ⟨b, 0, none⟩)] w fun e w' => e = .returned (.bool false) ∧ w = w' := by
  have h1 : ((n : Int) == 0) = false := by rw [beq_eq_false_iff_ne]; omega
  go_enter Tryz.func79, Tryz.ntmps79
  go_wp2
  go_ret
  exact ⟨rfl, rfl⟩

set_option maxHeartbeats 400000 in
theorem down_any (b n c : Nat) (A : Option Addr) (dn : Bool) (w : World) (h0 : w.cell? ⟨b, 0, none⟩ = some (.slice A n c)) (hn : 0 < n) (hm : n ≤ 1024) (h3 : w.cell? ⟨b, 3, none⟩ = some (.bool dn)) :
    Calls Tryz.prog 82 #[.pointer (some ⟨b, 0, none⟩)] w fun e w' => e = .returned (.bool dn) ∧ w = w' := by
  go_enter Tryz.func82, Tryz.ntmps82
  go_wp2_with (go_at_call 79; refine (none_not b n c A _ h0 hn hm).mono ?_; rintro e w' ⟨rfl, rfl⟩)
  go_ret
  exact ⟨rfl, rfl⟩

set_option maxHeartbeats 400000 in
theorem fails_zero (b : Nat) (w : World) (h2 : w.cell? ⟨b, 2, none⟩ = some (.int .i64 0)) :
    Calls Tryz.prog 117 #[.pointer (some ⟨b, 0, none⟩)] w fun e w' => e = .returned (.bool false) ∧ w = w' := by
  go_enter Tryz.func117, Tryz.ntmps117
  go_wp2
  go_ret
  exact ⟨rfl, rfl⟩

set_option maxHeartbeats 400000 in
theorem fails_later (b : Nat) (n : Int) (w : World) (h2 : w.cell? ⟨b, 2, none⟩ = some (.int .i64 n)) (f2 : w.frozen? ⟨b, 2, none⟩ = false) (h : 2 ≤ n) (hb : n ≤ 9223372036854775807) :
    Calls Tryz.prog 117 #[.pointer (some ⟨b, 0, none⟩)] w fun e w' => e = .returned (.bool false) ∧ w' = w.setCell ⟨b, 2, none⟩ (.int .i64 (n - 1)) := by
  go_enter Tryz.func117, Tryz.ntmps117
  go_wp2
  go_ret
  exact ⟨rfl, rfl⟩

set_option maxHeartbeats 400000 in
theorem fails_one (b : Nat) (k : Int) (dn : Bool) (w : World) (h2 : w.cell? ⟨b, 2, none⟩ = some (.int .i64 1)) (f2 : w.frozen? ⟨b, 2, none⟩ = false) (h3 : w.cell? ⟨b, 3, none⟩ = some (.bool dn)) (f3 : w.frozen? ⟨b, 3, none⟩ = false) (h4 : w.cell? ⟨b, 4, none⟩ = some (.int .i64 k)) (f4 : w.frozen? ⟨b, 4, none⟩ = false) (hk : 0 ≤ k) (hb : k ≤ 4611686018427387904) :
    Calls Tryz.prog 117 #[.pointer (some ⟨b, 0, none⟩)] w fun e w' => e = .returned (.bool true) ∧ w' = ((w.setCell ⟨b, 2, none⟩ (.int .i64 0)).setCell ⟨b, 3, none⟩ (.bool true)).setCell ⟨b, 4, none⟩ (.int .i64 (k + 1)) := by
  go_enter Tryz.func117, Tryz.ntmps117
  go_wp2
  go_ret
  exact ⟨rfl, rfl⟩

end Go.Proofs.YtbgiklkpinflaaaGreat

namespace Go.Proofs.YtbgiklkpinflaaaGreat
open Go.RowKit

/-- A disk. -/
structure Dsk where
  blocks : List (List UInt8)
  pending : List (Nat × List UInt8)
  armed : Nat
  down : Bool
  life : Nat

/-- What every disk that was made keeps to. -/
structure DskOk (D : Dsk) : Prop where
  blk : ∀ l ∈ D.blocks, l.length = 256
  pen : ∀ p ∈ D.pending, p.1 < D.blocks.length ∧ p.2.length = 256
  some_ : 0 < D.blocks.length
  few : D.blocks.length ≤ 1024
  armedLe : D.armed ≤ 9223372036854775807

/-- The cells of pending writes. -/
def penCells (ps : List (Nat × Value)) : List Value := ps.flatMap fun p => [.int .i64 (p.1 : Int), p.2]
theorem penCells_append (ps qs : List (Nat × Value)) : penCells (ps ++ qs) = penCells ps ++ penCells qs := by simp [penCells]
theorem penCells_length (ps : List (Nat × Value)) : (penCells ps).length = ps.length * 2 := by
  induction ps with
  | nil => rfl
  | cons p ps ih => simp only [penCells, List.flatMap_cons, List.length_append, List.length_cons, List.length_nil] at ih ⊢; omega

/-- How a disk lies in memory: its struct in block b, its list of blocks in block g1, its pending writes in the slice pv. -/
structure DiskRep (P : Nat → Prop) (w : World) (b : Nat) (D : Dsk) (g1 : Nat) (cur1 : Array Value) (pv : Value) (ps : List (Nat × Value)) : Prop where
  hb : Blk w b 94 #[.slice (some ⟨g1, 0, none⟩) D.blocks.length cur1.size, pv, .int .i64 (D.armed : Int), .bool D.down, .int .i64 (D.life : Int)]
  hg : Blk w g1 89 cur1
  le : D.blocks.length ≤ cur1.size
  bl : ∀ (i : Nat) (l : List UInt8), D.blocks[i]? = some l → ∃ v : Value, cur1[i]? = some v ∧ BytesAt P w v l
  own : w.ownsRow 0 138 2 pv D.pending.length (penCells ps)
  pb : ps.map (fun q => q.1) = D.pending.map (fun q => q.1)
  pl : ∀ (i : Nat) (p : Nat × List UInt8), D.pending[i]? = some p → ∃ v : Value, ps[i]? = some (p.1, v) ∧ BytesAt P w v p.2
  fresh : ∀ k, w.heap.size ≤ k → P k

/-- The disk D lies in memory at block b; S: the blocks that it may write. -/
def DiskAt (P : Nat → Prop) (w : World) (b : Nat) (D : Dsk) (S : List Nat) : Prop :=
  DskOk D ∧ ∃ g1 cur1 pv ps, S = b :: g1 :: pv.ownBlock.toList ∧ DiskRep P w b D g1 cur1 pv ps

/-- The counted call fails or not. -/
def Dsk.fails (D : Dsk) : Bool × Dsk :=
  if D.armed = 0 then (false, D)
  else if D.armed = 1 then (true, { D with armed := 0, down := true, life := D.life + 1 })
  else (false, { D with armed := D.armed - 1 })

def Dsk.write (D : Dsk) (i : Int) (l : List UInt8) : Int × Dsk :=
  if D.down then (50, D)
  else if i < 0 ∨ (D.blocks.length : Int) ≤ i ∨ l.length ≠ 256 then (51, D)
  else if D.fails.1 then (50, D.fails.2)
  else (0, { D.fails.2 with pending := D.fails.2.pending ++ [(i.toNat, l)] })

section
variable {P : Nat → Prop} {w w' : World} {b : Nat} {D : Dsk} {g1 : Nat} {cur1 : Array Value} {pv : Value} {ps : List (Nat × Value)}
theorem DiskRep.c0 (h : DiskRep P w b D g1 cur1 pv ps) : w.cell? ⟨b, 0, none⟩ = some (.slice (some ⟨g1, 0, none⟩) D.blocks.length cur1.size) := by rw [h.hb.cell]; rfl
theorem DiskRep.c1 (h : DiskRep P w b D g1 cur1 pv ps) : w.cell? ⟨b, 1, none⟩ = some pv := by rw [h.hb.cell]; rfl
theorem DiskRep.c2 (h : DiskRep P w b D g1 cur1 pv ps) : w.cell? ⟨b, 2, none⟩ = some (.int .i64 (D.armed : Int)) := by rw [h.hb.cell]; rfl
theorem DiskRep.c3 (h : DiskRep P w b D g1 cur1 pv ps) : w.cell? ⟨b, 3, none⟩ = some (.bool D.down) := by rw [h.hb.cell]; rfl
theorem DiskRep.c4 (h : DiskRep P w b D g1 cur1 pv ps) : w.cell? ⟨b, 4, none⟩ = some (.int .i64 (D.life : Int)) := by rw [h.hb.cell]; rfl
theorem DiskRep.pslen (h : DiskRep P w b D g1 cur1 pv ps) : ps.length = D.pending.length := by have := congrArg List.length h.pb; simpa using this
theorem DiskRep.ne1 (h : DiskRep P w b D g1 cur1 pv ps) : b ≠ g1 := h.hb.ne_ h.hg (by decide)
theorem own_blk_ne {base g n : Nat} {e t : TypeId} {size : Nat} {v : Value} {xs : List Value} {cs : Array Value} (h : w.ownsRow base e size v n xs) (hg : Blk w g t cs) (hne : e ≠ t) : v.ownBlock ≠ some g := by
  rcases h.2 with ⟨rfl, _⟩ | ⟨g', cap, cur, rfl, _, hh, _⟩
  · simp [Value.ownBlock]
  · intro he
    have : g' = g := by simpa [Value.ownBlock] using he
    subst this
    exact Blk.ne_ (t := e) hh hg hne rfl
theorem DiskRep.ne2 (h : DiskRep P w b D g1 cur1 pv ps) : pv.ownBlock ≠ some b := own_blk_ne h.own h.hb (by decide)
theorem DiskRep.ne3 (h : DiskRep P w b D g1 cur1 pv ps) : pv.ownBlock ≠ some g1 := own_blk_ne h.own h.hg (by decide)
theorem ownsRow_keeps {F : Nat → Prop} {base n : Nat} {e : TypeId} {size : Nat} {v : Value} {xs : List Value} (h : w.ownsRow base e size v n xs) (k : Keeps F w w') (hF : ∀ g, v.ownBlock = some g → ¬ F g) : w'.ownsRow base e size v n xs := by
  refine ⟨h.1, ?_⟩
  rcases h.2 with hn | ⟨g, cap, cur, rfl, hb, hgg, rest⟩
  · exact .inl hn
  · exact .inr ⟨g, cap, cur, rfl, hb, Blk.keeps (t := e) hgg k (hF g (by simp [Value.ownBlock])), rest⟩
/-- The disk's own blocks are no blocks of bytes. -/
theorem DiskRep.noBytes (h : DiskRep P w b D g1 cur1 pv ps) : ∀ g cs, g ∈ b :: g1 :: pv.ownBlock.toList → Blk w g 5 cs → False := by
  intro g cs hg hk
  simp only [List.mem_cons, Option.mem_toList] at hg
  rcases hg with rfl | rfl | hg
  · exact hk.ne_ h.hb (by decide) rfl
  · exact hk.ne_ h.hg (by decide) rfl
  · exact own_blk_ne h.own hk (by decide) hg
/-- Nothing of the disk's own is written: the disk is as it was. -/
theorem DiskRep.keeps {F : Nat → Prop} (h : DiskRep P w b D g1 cur1 pv ps) (k : Keeps F w w') (hF : ∀ g, g ∈ b :: g1 :: pv.ownBlock.toList → ¬ F g) (hU : ∀ g cs, F g → P g → Blk w g 5 cs → False) : DiskRep P w' b D g1 cur1 pv ps where
  hb := h.hb.keeps k (hF b (by simp))
  hg := h.hg.keeps k (hF g1 (by simp))
  le := h.le
  bl := fun i l hi => let ⟨v, hv, hB⟩ := h.bl i l hi; ⟨v, hv, hB.keeps k hU⟩
  own := ownsRow_keeps h.own k fun g hg => hF g (by simp [hg])
  pb := h.pb
  pl := fun i p hp => let ⟨v, hv, hB⟩ := h.pl i p hp; ⟨v, hv, hB.keeps k hU⟩
  fresh := fun i hi => h.fresh i (Nat.le_trans k.size hi)
end

end Go.Proofs.YtbgiklkpinflaaaGreat

namespace Go.Proofs.YtbgiklkpinflaaaGreat
open Go.RowKit
attribute [local go_sem ↓] Go.wp_at_zero Go.wp_at_succ

/-- Behind a call the disk E lies where D lay; of what was there only the disk's own blocks may have turned. -/
def After (P : Nat → Prop) (w w' : World) (b : Nat) (E : Dsk) (S : List Nat) : Prop :=
  ∃ S', DiskAt P w' b E S' ∧ (∀ k ∈ S', k ∈ S ∨ w.heap.size ≤ k) ∧ Keeps (· ∈ S) w w'

theorem DskOk.fails {D : Dsk} (h : DskOk D) : DskOk D.fails.2 := by
  unfold Dsk.fails
  split
  · exact h
  · split
    · exact ⟨h.blk, h.pen, h.some_, h.few, by simp⟩
    · exact ⟨h.blk, h.pen, h.some_, h.few, by have := h.armedLe; simp; omega⟩

/-- Only the armed, down and life cells turn. -/
theorem fails_calls {P : Nat → Prop} {w : World} {b : Nat} {D : Dsk} {g1 : Nat} {cur1 : Array Value} {pv : Value} {ps : List (Nat × Value)} (h : DiskRep P w b D g1 cur1 pv ps) (ho : DskOk D) (hl : D.life ≤ 4611686018427387904) :
    Calls Tryz.prog 117 #[.pointer (some ⟨b, 0, none⟩)] w fun e w' => e = .returned (.bool D.fails.1) ∧ DiskRep P w' b D.fails.2 g1 cur1 pv ps ∧ Keeps (· = b) w w' := by
  have hU : ∀ g cs, g = b → P g → Blk w g 5 cs → False := fun g cs hg _ hk => h.noBytes g cs (by simp [hg]) hk
  have kb1 : ∀ u, Keeps (· = b) w (w.setCell ⟨b, 2, none⟩ u) := fun u => (Keeps.refl (· = b) w).setCell (p := ⟨b, 2, none⟩) (fun _ => rfl) u
  have kb3 : ∀ u v x, Keeps (· = b) w (((w.setCell ⟨b, 2, none⟩ u).setCell ⟨b, 3, none⟩ v).setCell ⟨b, 4, none⟩ x) := fun u v x => ((kb1 u).setCell (p := ⟨b, 3, none⟩) (fun _ => rfl) v).setCell (p := ⟨b, 4, none⟩) (fun _ => rfl) x
  have stay : ∀ w' (E : Dsk) cs, Keeps (· = b) w w' → Blk w' b 94 cs → cs = #[.slice (some ⟨g1, 0, none⟩) D.blocks.length cur1.size, pv, .int .i64 (E.armed : Int), .bool E.down, .int .i64 (E.life : Int)] → E.blocks = D.blocks → E.pending = D.pending → DiskRep P w' b E g1 cur1 pv ps := by
    intro w' E cs k hb hcs e1 e2
    subst hcs
    exact ⟨by rw [e1]; exact hb, h.hg.keeps k (Ne.symm h.ne1), by rw [e1]; exact h.le, fun i l hi => by
      rw [e1] at hi
      obtain ⟨v, hv, hB⟩ := h.bl i l hi
      exact ⟨v, hv, hB.keeps k hU⟩, by
      rw [e2]
      exact ownsRow_keeps h.own k fun g hg e => h.ne2 (by rw [hg, e]), by rw [e2]; exact h.pb, fun i p hp => by
      rw [e2] at hp
      obtain ⟨v, hv, hB⟩ := h.pl i p hp
      exact ⟨v, hv, hB.keeps k hU⟩, fun i hi => h.fresh i (Nat.le_trans k.size hi)⟩
  rcases Nat.lt_trichotomy D.armed 1 with h0 | h1 | h2
  · have h0 : D.armed = 0 := by omega
    have c2 := h.c2
    rw [h0] at c2
    refine (fails_zero b w c2).mono ?_
    rintro e w' ⟨rfl, rfl⟩
    have e1 : D.fails = (false, D) := by simp [Dsk.fails, h0]
    rw [e1]
    exact ⟨rfl, h, Keeps.refl _ _⟩
  · have c2 := h.c2
    rw [h1] at c2
    refine (fails_one b _ _ w c2 (h.hb.frozen 2) h.c3 (h.hb.frozen 3) h.c4 (h.hb.frozen 4) (by omega) (by omega)).mono ?_
    rintro e w' ⟨rfl, rfl⟩
    have e1 : D.fails = (true, { D with armed := 0, down := true, life := D.life + 1 }) := by simp [Dsk.fails, h1]
    rw [e1]
    refine ⟨rfl, stay _ _ _ (kb3 _ _ _) (((h.hb.set_ 2 _).set_ 3 _).set_ 4 _) ?_ rfl rfl, ?_⟩
    · simp
    · exact kb3 _ _ _
  · refine (fails_later b _ w h.c2 (h.hb.frozen 2) (by omega) (by have := ho.armedLe; omega)).mono ?_
    rintro e w' ⟨rfl, rfl⟩
    have e1 : D.fails = (false, { D with armed := D.armed - 1 }) := by
      unfold Dsk.fails
      rw [if_neg (by omega), if_neg (by omega)]
    rw [e1]
    refine ⟨rfl, stay _ _ _ (kb1 _) (h.hb.set_ 2 _) ?_ rfl rfl, kb1 _⟩
    have : ((D.armed - 1 : Nat) : Int) = (D.armed : Int) - 1 := by omega
    simp [this]

theorem Tryz.infoWrite : (Tryz.prog.info? 138).map (fun i => (i.zero, i.size, i.bytes)) = some (some (.agg #[.int .i64 0, .slice none 0 0]), 2, 32) := by kernel_rfl

set_option maxHeartbeats 1000000 in
/-- The disk is down. -/
theorem write_down (b n c : Nat) (A : Option Addr) (i : Int) (v : Value) (w : World) (h0 : w.cell? ⟨b, 0, none⟩ = some (.slice A n c)) (hn : 0 < n) (hm : n ≤ 1024) (h3 : w.cell? ⟨b, 3, none⟩ = some (.bool true)) :
    Calls Tryz.prog 74 #[.pointer (some ⟨b, 0, none⟩), .int .i64 i, v] w fun e w' => e = .returned (.int .i64 50) ∧ w = w' := by
  go_enter Tryz.func74, Tryz.ntmps74
  go_wp2_with (go_at_call 82; refine (down_any b n c A true _ h0 hn hm h3).mono ?_; rintro e w' ⟨rfl, rfl⟩)
  go_ret
  exact ⟨rfl, rfl⟩

set_option maxHeartbeats 1000000 in
/-- There is no such block, or the bytes are none. -/
theorem write_bad (b n c m k : Nat) (A B : Option Addr) (i : Int) (w : World) (h0 : w.cell? ⟨b, 0, none⟩ = some (.slice A n c)) (hn : 0 < n) (hm : n ≤ 1024) (h3 : w.cell? ⟨b, 3, none⟩ = some (.bool false))
    (hbad : i < 0 ∨ (n : Int) ≤ i ∨ m ≠ 256) :
    Calls Tryz.prog 74 #[.pointer (some ⟨b, 0, none⟩), .int .i64 i, .slice B m k] w fun e w' => e = .returned (.int .i64 51) ∧ w = w' := by
  by_cases hi : i < 0
  · go_enter Tryz.func74, Tryz.ntmps74
    go_wp2_with (go_at_call 82; refine (down_any b n c A false _ h0 hn hm h3).mono ?_; rintro e w' ⟨rfl, rfl⟩)
    go_ret
    exact ⟨rfl, rfl⟩
  · by_cases hj : (n : Int) ≤ i
    · have hi' : decide (i < 0) = false := by simpa using hi
      go_enter Tryz.func74, Tryz.ntmps74
      go_wp2_with (go_at_call 82; refine (down_any b n c A false _ h0 hn hm h3).mono ?_; rintro e w' ⟨rfl, rfl⟩)
      go_ret
      exact ⟨rfl, rfl⟩
    · have hi' : decide (i < 0) = false := by simpa using hi
      have hj' : decide ((n : Int) ≤ i) = false := by simpa using hj
      have hk : ((m : Int) != 256) = true := by rw [bne_iff_ne]; omega
      have hk2 : ((m : Int) == 256) = false := by rw [beq_eq_false_iff_ne]; omega
      go_enter Tryz.func74, Tryz.ntmps74
      go_wp2_with (go_at_call 82; refine (down_any b n c A false _ h0 hn hm h3).mono ?_; rintro e w' ⟨rfl, rfl⟩)
      go_ret
      exact ⟨rfl, rfl⟩

end Go.Proofs.YtbgiklkpinflaaaGreat

namespace Go.Proofs.YtbgiklkpinflaaaGreat
open Go.RowKit
attribute [local go_sem ↓] Go.wp_at_zero Go.wp_at_succ

/-- What a write that is noted leaves. -/
theorem write_after {P : Nat → Prop} {w w1 w2 w3 : World} {b : Nat} {E : Dsk} {g1 : Nat} {cur1 : Array Value} {pv : Value} {ps : List (Nat × Value)} {i : Nat} {l : List UInt8} {v : Value} {o : Obj} {gg cap2 : Nat}
    (hr : DiskRep P w1 b E g1 cur1 pv ps) (ho : DskOk E) (hk1 : Keeps (· = b) w w1) (hk2 : Keeps (fun _ => False) w1 w2) (hB : BytesAt P w2 v l) (hl : l.length = 256) (hi : i < E.blocks.length)
    (hown3 : w3.ownsRow 0 138 2 (.slice (some ⟨gg, 0, none⟩) (E.pending.length + 1) cap2) (E.pending.length + 1) (penCells ps ++ [.int .i64 (i : Int), v])) (hgrow : (w2.alloc o).grownBy w3 pv.ownBlock)
    (hat : pv.ownBlock = some gg ∨ gg = w2.heap.size + 1) :
    After P w (w3.setCell ⟨b, 1, none⟩ (.slice (some ⟨gg, 0, none⟩) (E.pending.length + 1) cap2)) b { E with pending := E.pending ++ [(i, l)] } (b :: g1 :: pv.ownBlock.toList) := by
  have hw1 : w.heap.size ≤ w1.heap.size := hk1.size
  have k3 : Keeps (fun k => pv.ownBlock = some k) w1 w3 := (hk2.weaken (F := fun k => pv.ownBlock = some k) (fun _ _ h => h.elim)).alloc o |>.grown hgrow (fun g h _ => h)
  have B3 : Blk w3 b 94 _ := hr.hb.keeps k3 hr.ne2
  have hne : gg ≠ b := fun e => own_blk_ne hown3 B3 (by decide) (by simp [Value.ownBlock, e])
  have k4 : Keeps (fun k => k = b ∨ pv.ownBlock = some k) w1 (w3.setCell ⟨b, 1, none⟩ (.slice (some ⟨gg, 0, none⟩) (E.pending.length + 1) cap2)) :=
    (k3.weaken (fun _ _ h => .inr h)).setCell (p := ⟨b, 1, none⟩) (fun _ => .inl rfl) _
  have k5 : Keeps (fun k => k = b ∨ pv.ownBlock = some k) w2 (w3.setCell ⟨b, 1, none⟩ (.slice (some ⟨gg, 0, none⟩) (E.pending.length + 1) cap2)) :=
    (((Keeps.refl (fun k => pv.ownBlock = some k) w2).alloc o |>.grown hgrow (fun g h _ => h)).weaken (fun _ _ h => .inr h)).setCell (p := ⟨b, 1, none⟩) (fun _ => .inl rfl) _
  have hU : ∀ g cs, (g = b ∨ pv.ownBlock = some g) → P g → Blk w1 g 5 cs → False := fun g cs hg _ hk => hr.noBytes g cs (by rcases hg with rfl | hg <;> simp [*]) hk
  have hU2 : ∀ g cs, (g = b ∨ pv.ownBlock = some g) → P g → Blk w2 g 5 cs → False := fun g cs hg _ hk => by
    have h2 : DiskRep P w2 b E g1 cur1 pv ps := hr.keeps hk2 (fun _ _ => id) (fun _ _ h _ _ => h)
    exact h2.noBytes g cs (by rcases hg with rfl | hg <;> simp [*]) hk
  refine ⟨[b, g1, gg], ⟨⟨ho.blk, ?_, ho.some_, ho.few, ho.armedLe⟩, g1, cur1, .slice (some ⟨gg, 0, none⟩) (E.pending.length + 1) cap2, ps ++ [(i, v)], rfl, ?_⟩, ?_, ?_⟩
  · intro p hp
    rcases List.mem_append.1 hp with h | h
    · exact ho.pen p h
    · simp only [List.mem_singleton] at h
      subst h
      exact ⟨hi, hl⟩
  · refine ⟨B3.set_ 1 _, hr.hg.keeps k4 (by rintro (h | h); exact hr.ne1 h.symm; exact hr.ne3 h), hr.le, ?_, ?_, ?_, ?_, ?_⟩
    · intro k l' hk
      obtain ⟨v', hv', hB'⟩ := hr.bl k l' hk
      exact ⟨v', hv', hB'.keeps k4 hU⟩
    · have h4 := ownsRow_keeps hown3 ((Keeps.refl (· = b) w3).setCell (p := ⟨b, 1, none⟩) (fun _ => rfl) (.slice (some ⟨gg, 0, none⟩) (E.pending.length + 1) cap2)) (by intro g hg e; simp [Value.ownBlock] at hg; omega)
      rw [penCells_append]
      simpa [penCells] using h4
    · simp [hr.pb]
    · intro k p hp
      simp only at hp
      rw [List.getElem?_append] at hp ⊢
      rw [hr.pslen]
      split at hp
      · rename_i hlt
        obtain ⟨v', hv', hB'⟩ := hr.pl k p hp
        rw [if_pos hlt]
        exact ⟨v', hv', hB'.keeps k4 hU⟩
      · rename_i hge
        rw [if_neg hge]
        rcases Nat.eq_zero_or_pos (k - E.pending.length) with h0 | h0
        · rw [h0] at hp ⊢
          simp only [List.getElem?_cons_zero, Option.some.injEq] at hp
          subst hp
          exact ⟨v, rfl, hB.keeps k5 hU2⟩
        · rw [List.getElem?_eq_none (by simp; omega)] at hp
          cases hp
    · exact fun i hi => hr.fresh i (Nat.le_trans k4.size hi)
  · intro k hk
    simp only [List.mem_cons, List.not_mem_nil, or_false] at hk
    rcases hk with rfl | rfl | rfl
    · exact .inl (by simp)
    · exact .inl (by simp)
    · rcases hat with h | h
      · exact .inl (by simp [h])
      · have := hk2.size
        exact .inr (by omega)
  · refine (hk1.weaken (F := (· ∈ b :: g1 :: pv.ownBlock.toList)) (fun k _ h => by simp [h])).trans k4 (fun k _ h => ?_)
    rcases h with rfl | h
    · simp
    · simp [h]

set_option maxHeartbeats 2000000 in
set_option maxRecDepth 100000 in
/-- The write is noted, unless the call is the one that fails. -/
theorem write_good {P : Nat → Prop} {b : Nat} {D : Dsk} {g1 : Nat} {cur1 : Array Value} {pv : Value} {ps : List (Nat × Value)} (w : World) (h : DiskRep P w b D g1 cur1 pv ps) (ho : DskOk D) (hl : D.life ≤ 4611686018427387904) (hd : D.down = false)
    (i : Nat) (hi : i < D.blocks.length) (hn : D.pending.length ≤ 1000000000) (gb ob cb : Nat) (l : List UInt8) (hb : l.length = 256) (hc : Cells w gb ob (l.map bv)) (hgb : gb ≠ b) :
    Calls Tryz.prog 74 #[.pointer (some ⟨b, 0, none⟩), .int .i64 (i : Int), .slice (some ⟨gb, ob, none⟩) 256 cb] w fun e w' =>
      e = .returned (.int .i64 (D.write i l).1) ∧ After P w w' b (D.write i l).2 (b :: g1 :: pv.ownBlock.toList) := by
  have hf := ho.few
  have hs := ho.some_
  have h0 := h.c0
  have h3 := h.c3
  rw [hd] at h3
  have i0 : decide ((i : Int) < 0) = false := by simp
  have i1 : decide ((D.blocks.length : Int) ≤ (i : Int)) = false := by simpa using hi
  have HF := Lib.hid (fails_calls h ho hl)
  have HE : Hid (D.write i l = if D.fails.1 then (50, D.fails.2) else (0, { D.fails.2 with pending := D.fails.2.pending ++ [(i, l)] })) := by
    show D.write i l = _
    unfold Dsk.write
    rw [hd, if_neg (by simp), if_neg (by simp; omega)]
    simp
  have h256 : (((256 : Nat) : Int) != 256) = false := by decide
  have HC : Hid (Cells w gb ob (l.map bv)) := hc
  clear hc
  obtain ⟨iw, hiw, hz0, hz1, hz2⟩ := info_parts Tryz.infoWrite
  cases hff : D.fails.1
  · rw [hff] at HF HE
    simp only [Bool.false_eq_true, if_false] at HE
    go_enter Tryz.func74, Tryz.ntmps74
    go_wp2_with (first
      | (go_at_call 82; refine (down_any b _ _ _ false _ h0 hs hf h3).mono ?_; rintro e wx ⟨rfl, rfl⟩)
      | (go_at_call 117; refine HF.out.mono ?_; rintro e w1 ⟨rfl, hr1, hk1⟩; clear HF))
    have h1 := hr1.c1
    have f1 := hr1.hb.frozen 1
    have hbl := hr1.hb.lt
    have HC1 : Hid (Cells w1 gb ob (l.map bv)) := HC.out.keeps hk1 hgb
    have hpl : D.fails.2.pending = D.pending := by unfold Dsk.fails; split; rfl; split <;> rfl
    have HP := Lib.hid hpl
    have hbk : D.fails.2.blocks = D.blocks := by unfold Dsk.fails; split; rfl; split <;> rfl
    have HBk := Lib.hid hbk
    clear hbk
    clear hpl
    have hn1 : D.fails.2.pending.length ≤ 1000000000 := by rw [HP.out]; exact hn
    have HR := Lib.hid hr1
    clear hr1
    have hl2 : l.length ≤ 70368744177664 := by omega
    have HL := Lib.hid hb
    clear hb
    go_region_law
      (first
        | (go_simp; go_at_call 86; refine (clone_bytes gb ob 256 cb l _ HL.out.symm hl2 ?_).mono ?_; exact HC1.out; rintro e w2 ⟨g', cap, rfl, hB, hbel⟩; have B2 := HR.out.hb.belowH hbel rfl hbl; have hc2 : w2.cell? ⟨b, 1, none⟩ = some pv := B2.cell 1; have hc2a : ∀ o, (w2.alloc o).cell? ⟨b, 1, none⟩ = some pv := fun o => (B2.alloc o).cell 1; have hf2 := B2.frozen 1)
        | (refine step_append_lies _ (by rfl) _ _ _ (by rfl) 0 138 iw _ 2 32 Tryz.underlying92 hiw hz0 hz1 hz2 rfl (by omega) pv D.fails.2.pending.length (penCells ps) (by rfl) (((ownsRow_keeps HR.out.own (Keeps.of_belowD hbel) (fun _ _ h => h)).alloc _).drew)
            ⟨w2.heap.size, 0, none⟩ 1 1 [.int .i64 (i : Int), .slice (some ⟨g', 0, none⟩) l.length cap] (by rfl) (by rfl) (World.news_of_block (cs := #[.int .i64 (i : Int), .slice (some ⟨g', 0, none⟩) l.length cap]) (t := 138) (fr := (0, 0)) (heap_alloc_new _ _)) (by simp [Value.oneCell'])
            (by omega) (by unfold maxLen; omega) (by omega) (by omega) (w2.heap.size + 1) (by simp) ?_; intro gg cap2 w3 hown3 hgrow hat hlt3; have B3 := (B2.alloc _).grown hgrow HR.out.ne2; have hc3 := (B3.at1 1 _ rfl).1; have hf3 := B3.frozen 1))
    all_goals
      go_wp2
      go_ret
      rw [HE.out]
      refine ⟨rfl, ?_⟩
      exact write_after HR.out ho.fails hk1 (Keeps.of_belowD hbel) (hB.mono HR.out.fresh) HL.out (by rw [HBk.out]; exact hi) hown3 hgrow hat
  · rw [hff] at HF HE
    simp only [if_true] at HE
    go_enter Tryz.func74, Tryz.ntmps74
    go_wp2_with (first
      | (go_at_call 82; refine (down_any b _ _ _ false _ h0 hs hf h3).mono ?_; rintro e wx ⟨rfl, rfl⟩)
      | (go_at_call 117; refine HF.out.mono ?_; rintro e w1 ⟨rfl, hr1, hk1⟩; clear HF))
    go_ret
    rw [HE.out]
    refine ⟨rfl, b :: g1 :: pv.ownBlock.toList, ⟨ho.fails, g1, cur1, pv, ps, rfl, hr1⟩, fun k hk => .inl hk, hk1.weaken ?_⟩
    intro k _ e
    simp [e]

end Go.Proofs.YtbgiklkpinflaaaGreat
