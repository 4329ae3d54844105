/- (*Disk).fails and Write. -/
import Derived.Test.YtbgiklkpinflaaaDisk2
namespace Go.Proofs.Ytbgiklkpinflaaa
open Go.RowKit
attribute [local go_sem ↓] Go.wp_at_zero Go.wp_at_succ

/-- Behind a call the disk E lies where D lay; of what was there only the disk's own blocks may have turned. -/
def After (P : Nat → Prop) (w w' : World) (b : Nat) (E : Dsk) (S : List Nat) : Prop :=
  ∃ S', DiskAt P w' b E S' ∧ (∀ k ∈ S', k ∈ S ∨ w.heap.size ≤ k) ∧ Keeps (· ∈ S) w w'

theorem DskOk.fails {D : Dsk} (h : DskOk D) : DskOk D.fails.2 := by
  unfold Dsk.fails
  split
  · exact h
  · split
    · exact ⟨h.blk, h.pen, h.some_, h.few, by simp⟩
    · exact ⟨h.blk, h.pen, h.some_, h.few, by have := h.armedLe; simp; omega⟩

/-- Only the armed, down and life cells turn. -/
theorem fails_calls {P : Nat → Prop} {w : World} {b : Nat} {D : Dsk} {g1 : Nat} {cur1 : Array Value} {pv : Value} {ps : List (Nat × Value)} (h : DiskRep P w b D g1 cur1 pv ps) (ho : DskOk D) (hl : D.life ≤ 4611686018427387904) :
    Calls Try.prog 67 #[.pointer (some ⟨b, 0, none⟩)] w fun e w' => e = .returned (.bool D.fails.1) ∧ DiskRep P w' b D.fails.2 g1 cur1 pv ps ∧ Keeps (· = b) w w' := by
  have hU : ∀ g cs, g = b → P g → Blk w g 5 cs → False := fun g cs hg _ hk => h.noBytes g cs (by simp [hg]) hk
  have kb1 : ∀ u, Keeps (· = b) w (w.setCell ⟨b, 2, none⟩ u) := fun u => (Keeps.refl (· = b) w).setCell (p := ⟨b, 2, none⟩) (fun _ => rfl) u
  have kb3 : ∀ u v x, Keeps (· = b) w (((w.setCell ⟨b, 2, none⟩ u).setCell ⟨b, 3, none⟩ v).setCell ⟨b, 4, none⟩ x) := fun u v x => ((kb1 u).setCell (p := ⟨b, 3, none⟩) (fun _ => rfl) v).setCell (p := ⟨b, 4, none⟩) (fun _ => rfl) x
  have stay : ∀ w' (E : Dsk) cs, Keeps (· = b) w w' → Blk w' b 99 cs → cs = #[.slice (some ⟨g1, 0, none⟩) D.blocks.length cur1.size, pv, .int .i64 (E.armed : Int), .bool E.down, .int .i64 (E.life : Int)] → E.blocks = D.blocks → E.pending = D.pending → DiskRep P w' b E g1 cur1 pv ps := by
    intro w' E cs k hb hcs e1 e2
    subst hcs
    exact ⟨by rw [e1]; exact hb, h.hg.keeps k (Ne.symm h.ne1), by rw [e1]; exact h.le, fun i l hi => by
      rw [e1] at hi
      obtain ⟨v, hv, hB⟩ := h.bl i l hi
      exact ⟨v, hv, hB.keeps k hU⟩, by
      rw [e2]
      exact ownsRow_keeps h.own k fun g hg e => h.ne2 (by rw [hg, e]), by rw [e2]; exact h.pb, fun i p hp => by
      rw [e2] at hp
      obtain ⟨v, hv, hB⟩ := h.pl i p hp
      exact ⟨v, hv, hB.keeps k hU⟩, fun i hi => h.fresh i (Nat.le_trans k.size hi)⟩
  rcases Nat.lt_trichotomy D.armed 1 with h0 | h1 | h2
  · have h0 : D.armed = 0 := by omega
    have c2 := h.c2
    rw [h0] at c2
    refine (fails_zero b w c2).mono ?_
    rintro e w' ⟨rfl, rfl⟩
    have e1 : D.fails = (false, D) := by simp [Dsk.fails, h0]
    rw [e1]
    exact ⟨rfl, h, Keeps.refl _ _⟩
  · have c2 := h.c2
    rw [h1] at c2
    refine (fails_one b _ _ w c2 (h.hb.frozen 2) h.c3 (h.hb.frozen 3) h.c4 (h.hb.frozen 4) (by omega) (by omega)).mono ?_
    rintro e w' ⟨rfl, rfl⟩
    have e1 : D.fails = (true, { D with armed := 0, down := true, life := D.life + 1 }) := by simp [Dsk.fails, h1]
    rw [e1]
    refine ⟨rfl, stay _ _ _ (kb3 _ _ _) (((h.hb.set_ 2 _).set_ 3 _).set_ 4 _) ?_ rfl rfl, ?_⟩
    · simp
    · exact kb3 _ _ _
  · refine (fails_later b _ w h.c2 (h.hb.frozen 2) (by omega) (by have := ho.armedLe; omega)).mono ?_
    rintro e w' ⟨rfl, rfl⟩
    have e1 : D.fails = (false, { D with armed := D.armed - 1 }) := by
      unfold Dsk.fails
      rw [if_neg (by omega), if_neg (by omega)]
    rw [e1]
    refine ⟨rfl, stay _ _ _ (kb1 _) (h.hb.set_ 2 _) ?_ rfl rfl, kb1 _⟩
    have : ((D.armed - 1 : Nat) : Int) = (D.armed : Int) - 1 := by omega
    simp [this]

theorem Try.infoWrite : (Try.prog.info? 109).map (fun i => (i.zero, i.size, i.bytes)) = some (some (.agg #[.int .i64 0, .slice none 0 0]), 2, 32) := by kernel_rfl

set_option maxHeartbeats 1000000 in
/-- The disk is down. -/
theorem write_down (b n c : Nat) (A : Option Addr) (i : Int) (v : Value) (w : World) (h0 : w.cell? ⟨b, 0, none⟩ = some (.slice A n c)) (hn : 0 < n) (hm : n ≤ 1024) (h3 : w.cell? ⟨b, 3, none⟩ = some (.bool true)) :
    Calls Try.prog 37 #[.pointer (some ⟨b, 0, none⟩), .int .i64 i, v] w fun e w' => e = .returned (.int .i64 50) ∧ w = w' := by
  go_enter Try.func37, Try.ntmps37
  go_wp2_with (go_at_call 55; refine (down_any b n c A true _ h0 hn hm h3).mono ?_; rintro e w' ⟨rfl, rfl⟩)
  go_ret
  exact ⟨rfl, rfl⟩

set_option maxHeartbeats 1000000 in
/-- There is no such block, or the bytes are none. -/
theorem write_bad (b n c m k : Nat) (A B : Option Addr) (i : Int) (w : World) (h0 : w.cell? ⟨b, 0, none⟩ = some (.slice A n c)) (hn : 0 < n) (hm : n ≤ 1024) (h3 : w.cell? ⟨b, 3, none⟩ = some (.bool false))
    (hbad : i < 0 ∨ (n : Int) ≤ i ∨ m ≠ 256) :
    Calls Try.prog 37 #[.pointer (some ⟨b, 0, none⟩), .int .i64 i, .slice B m k] w fun e w' => e = .returned (.int .i64 51) ∧ w = w' := by
  by_cases hi : i < 0
  · go_enter Try.func37, Try.ntmps37
    go_wp2_with (go_at_call 55; refine (down_any b n c A false _ h0 hn hm h3).mono ?_; rintro e w' ⟨rfl, rfl⟩)
    go_ret
    exact ⟨rfl, rfl⟩
  · by_cases hj : (n : Int) ≤ i
    · have hi' : decide (i < 0) = false := by simpa using hi
      go_enter Try.func37, Try.ntmps37
      go_wp2_with (go_at_call 55; refine (down_any b n c A false _ h0 hn hm h3).mono ?_; rintro e w' ⟨rfl, rfl⟩)
      go_ret
      exact ⟨rfl, rfl⟩
    · have hi' : decide (i < 0) = false := by simpa using hi
      have hj' : decide ((n : Int) ≤ i) = false := by simpa using hj
      have hk : ((m : Int) != 256) = true := by rw [bne_iff_ne]; omega
      have hk2 : ((m : Int) == 256) = false := by rw [beq_eq_false_iff_ne]; omega
      go_enter Try.func37, Try.ntmps37
      go_wp2_with (go_at_call 55; refine (down_any b n c A false _ h0 hn hm h3).mono ?_; rintro e w' ⟨rfl, rfl⟩)
      go_ret
      exact ⟨rfl, rfl⟩

end Go.Proofs.Ytbgiklkpinflaaa
