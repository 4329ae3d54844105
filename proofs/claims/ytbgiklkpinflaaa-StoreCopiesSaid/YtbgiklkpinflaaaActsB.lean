/- acted: a call of both disks. acted: the calls of both disks, without the walk. acted: the walks. acted: the walks whose calls stand in one statement. -/
import Derived.Test.YtbgiklkpinflaaaRefD
import Derived.Test.YtbgiklkpinflaaaCopyA
import Derived.Test.YtbgiklkpinflaaaActsA
import Derived.Test.YtbgiklkpinflaaaSpoil6

namespace Go.Proofs.Ytbgiklkpinflaaa
open Go.RowKit Go.Shelf
attribute [local go_sem ↓] Go.wp_at_zero Go.wp_at_succ

/-- What a call of both disks leaves. -/
def BothAfter (P : Nat → Prop) (w w' : World) (d r n : Nat) (S : List Nat) : Prop :=
  ∃ S', Both P w' d r n S' ∧ (∀ q ∈ S', q ∈ S ∨ w.heap.size ≤ q) ∧ Keeps (· ∈ S) w w'

section
variable {P : Nat → Prop} {w w1 w2 : World} {d r : Nat} {D E : Dsk} {Sd Sr : List Nat}
/-- The program's disk has turned; the reference's has not. -/
theorem After.ref (h : After P w w1 d E Sd) (hd : DiskAt P w d D Sd) (hr : Ref.DiskAt P w r D Sr) (hne : ∀ q ∈ Sd, q ∉ Sr) : Ref.DiskAt P w1 r D Sr :=
  let ⟨_, _, _, k⟩ := h
  hr.keeps k (fun g hg hg2 => hne g hg2 hg) fun g cs hg _ hb => hd.no (by decide) (by decide) (by decide) hg hb
/-- Then the reference's disk has turned too. -/
theorem both_after {n : Nat} (h1 : After P w w1 d E Sd) (hd : DiskAt P w d D Sd) (hr : Ref.DiskAt P w1 r D Sr) (hrl : ∀ q ∈ Sr, q < w.heap.size) (hne : ∀ q ∈ Sd, q ∉ Sr) (h2 : Ref.After P w1 w2 r E Sr) (hl : E.life ≤ n) (hp : E.pending.length ≤ n) : BothAfter P w w2 d r n (Sd ++ Sr) := by
  obtain ⟨S1, a1, a2, a3⟩ := h1
  obtain ⟨S2, b1, b2, b3⟩ := h2
  have hs := a3.size
  have h12 : ∀ q ∈ S1, q ∉ Sr := fun q hq hq2 => by
    rcases a2 q hq with h | h
    · exact hne q h hq2
    · have := hrl q hq2; omega
  have hS1 : ∀ q ∈ S1, q < w1.heap.size := fun q hq => by
    obtain ⟨_, _, hb, _⟩ := a1.lt q hq
    exact hb.lt
  have h1' : DiskAt P w2 d E S1 := a1.keeps b3 (fun g hg hg2 => h12 g hg hg2) fun g cs hg _ hb => hr.no (by decide) (by decide) (by decide) hg hb
  refine ⟨S1 ++ S2, ⟨E, S1, S2, rfl, fun q hq hq2 => ?_, h1', b1, hl, hp⟩, fun q hq => ?_, (a3.weaken fun _ _ h => List.mem_append_left _ h).trans b3 fun _ _ h => List.mem_append_right _ h⟩
  · rcases b2 q hq2 with h | h
    · exact h12 q hq h
    · have := hS1 q hq; omega
  · rcases List.mem_append.1 hq with h | h
    · rcases a2 q h with h | h
      · exact .inl (List.mem_append_left _ h)
      · exact .inr h
    · rcases b2 q h with h | h
      · exact .inl (List.mem_append_right _ h)
      · exact .inr (by omega)
/-- Only new memory has been made ahead. -/
theorem BothAfter.behind {n : Nat} {S : List Nat} (hb : Below w.heap.size w w1) (h : BothAfter P w1 w2 d r n S) : BothAfter P w w2 d r n S := by
  obtain ⟨S', a, c, k⟩ := h
  exact ⟨S', a, fun q hq => (c q hq).imp id fun h => Nat.le_trans hb.size h, (Keeps.of_below (F := fun _ => False) hb).weaken (F := (· ∈ S)) (fun _ _ h => h.elim) |>.trans k fun _ _ h => h⟩
theorem Both.below {n : Nat} {S : List Nat} (h : Both P w d r n S) (hb : Below w.heap.size w w1) : Both P w1 d r n S := by
  obtain ⟨D, Sd, Sr, a, c, d1, d2, e⟩ := h
  exact ⟨D, Sd, Sr, a, c, d1.below hb, d2.below hb, e⟩
theorem Both.refl {n : Nat} {S : List Nat} (h : Both P w d r n S) (hb : Below w.heap.size w w1) : BothAfter P w w1 d r n S :=
  ⟨S, h.below hb, fun _ h => .inl h, (Keeps.of_below (F := fun _ => False) hb).weaken fun _ _ h => h.elim⟩
theorem Both.mono {n m : Nat} {S : List Nat} (h : Both P w d r n S) (hm : n ≤ m) : Both P w d r m S := by
  obtain ⟨D, Sd, Sr, a, c, d1, d2, e1, e2⟩ := h
  exact ⟨D, Sd, Sr, a, c, d1, d2, by omega, by omega⟩
end
theorem Dsk.write_le (D : Dsk) (i : Int) (l : List UInt8) {n : Nat} (h1 : D.life ≤ n) (h2 : D.pending.length ≤ n) : (D.write i l).2.life ≤ n + 1 ∧ (D.write i l).2.pending.length ≤ n + 1 := by
  have a := D.fails_life
  have c := D.fails_pending
  unfold Dsk.write
  split
  · simp only; omega
  · split
    · simp only; omega
    · split
      · simp only [c]; omega
      · simp only [c, List.length_append, List.length_singleton]; omega
theorem Dsk.sync_le (D : Dsk) {n : Nat} (h1 : D.life ≤ n) (h2 : D.pending.length ≤ n) : D.sync.2.life ≤ n + 1 ∧ D.sync.2.pending.length ≤ n + 1 := by
  have a := D.fails_life
  have c := D.fails_pending
  unfold Dsk.sync
  split
  · simp only; omega
  · split
    · simp only [c]; omega
    · simp only [List.length_nil]; omega
theorem Dsk.crash_le (D : Dsk) (f : Nat → Bool) {n : Nat} (h1 : D.life ≤ n) (h2 : D.pending.length ≤ n) : (D.crash f).life ≤ n + 1 ∧ (D.crash f).pending.length ≤ n + 1 := by
  unfold Dsk.crash
  simp only [List.length_nil]
  omega
theorem Dsk.spoil_le (D : Dsk) (i k y : Int) {n : Nat} (h1 : D.life ≤ n) (h2 : D.pending.length ≤ n) : (D.spoil i k y).2.life ≤ n + 1 ∧ (D.spoil i k y).2.pending.length ≤ n + 1 := by
  unfold Dsk.spoil
  have := List.length_filter_le (fun p : Nat × List UInt8 => !(p.1 == i.toNat)) D.pending
  split
  · simp only; omega
  · split
    · simp only; omega
    · split
      · simp only; omega
      · simp only; omega

end Go.Proofs.Ytbgiklkpinflaaa

namespace Go.Proofs.Ytbgiklkpinflaaa
open Go.RowKit Go.Shelf

/-- A call of the program's disk, and then one of the reference's: both return the same, and both disks become E. -/
def TwoCalls (P : Nat → Prop) (w : World) (d r : Nat) (Sd Sr : List Nat) (f1 f2 : FuncId) (a1 a2 : Array Value) (ret : Value) (E : Dsk) : Prop :=
  (Calls Try.prog f1 a1 w fun e w' => e = .returned ret ∧ After P w w' d E Sd) ∧ ∀ w3, After P w w3 d E Sd → Calls Try.prog f2 a2 w3 fun e w' => e = .returned ret ∧ Ref.After P w3 w' r E Sr

theorem KeepAt.keeps {w w1 : World} {S T : List Nat} {v : Value} {ks : List Bool} (h : KeepAt w (S ++ T) v ks) (k : Keeps (· ∈ S) w w1) : KeepAt w1 T v ks := by
  obtain ⟨A, c, e, hl, hk⟩ := h
  refine ⟨A, c, e, hl, fun j x hj => ?_⟩
  obtain ⟨a, e1, e2, e3⟩ := hk j x hj
  exact ⟨a, e1, fun hm => e2 (List.mem_append_right _ hm), k.cell e3 (by rw [add_block]; exact fun hm => e2 (List.mem_append_left _ hm))⟩

section
variable {P : Nat → Prop} {w : World} {d r : Nat} {D : Dsk} {Sd Sr : List Nat}
theorem two_write {Q : Nat → Prop} (hd : DiskAt P w d D Sd) (hr : Ref.DiskAt P w r D Sr) (hne : ∀ q ∈ Sd, q ∉ Sr) (hl : D.life ≤ 1000000) (hp : D.pending.length ≤ 1000000) (i : Int) {v : Value} {l : List UInt8} (hB : BytesAt Q w v l) :
    TwoCalls P w d r Sd Sr 37 43 #[.pointer (some ⟨d, 0, none⟩), .int .i64 i, v] #[.pointer (some ⟨r, 0, none⟩), .int .i64 i, v] (.int .i64 (D.write i l).1) (D.write i l).2 := by
  refine ⟨write_any w hd (by omega) (by omega) i v l ?_, fun w3 h3 => Ref.write_any w3 (h3.ref hd hr hne) (by omega) (by omega) i v l (h3.bytes hd hB)⟩
  obtain ⟨g, cap, cur, rfl, _, _, hb, hc⟩ := hB.cells
  exact ⟨_, cap, rfl, fun _ => ⟨g, 0, rfl, hc, fun hm => hd.no (by decide) (by decide) (by decide) hm hb⟩⟩
theorem two_sync (hd : DiskAt P w d D Sd) (hr : Ref.DiskAt P w r D Sr) (hne : ∀ q ∈ Sd, q ∉ Sr) (hl : D.life ≤ 1000000) (hp : D.pending.length ≤ 1000000) :
    TwoCalls P w d r Sd Sr 46 47 #[.pointer (some ⟨d, 0, none⟩)] #[.pointer (some ⟨r, 0, none⟩)] (.int .i64 D.sync.1) D.sync.2 :=
  ⟨sync_any w hd (by omega) (by omega), fun w3 h3 => Ref.sync_any w3 (h3.ref hd hr hne) (by omega) (by omega)⟩
theorem two_arm (hd : DiskAt P w d D Sd) (hr : Ref.DiskAt P w r D Sr) (hne : ∀ q ∈ Sd, q ∉ Sr) (n : Int) (hn : n ≤ 9223372036854775807) :
    TwoCalls P w d r Sd Sr 48 49 #[.pointer (some ⟨d, 0, none⟩), .int .i64 n] #[.pointer (some ⟨r, 0, none⟩), .int .i64 n] (.tuple #[]) (D.arm n) :=
  ⟨arm_any w hd n hn, fun w3 h3 => Ref.arm_any w3 (h3.ref hd hr hne) n hn⟩
theorem two_crash (hd : DiskAt P w d D Sd) (hr : Ref.DiskAt P w r D Sr) (hne : ∀ q ∈ Sd, q ∉ Sr) (hl : D.life ≤ 1000000) (hp : D.pending.length ≤ 1000000) {v : Value} {ks : List Bool} (hk : KeepAt w (Sd ++ Sr) v ks) :
    TwoCalls P w d r Sd Sr 50 51 #[.pointer (some ⟨d, 0, none⟩), v] #[.pointer (some ⟨r, 0, none⟩), v] (.tuple #[]) (D.crash (keepOf ks)) :=
  ⟨crash_any w hd (by omega) (by omega) v ks (hk.mono fun q hq => List.mem_append_left _ hq), fun w3 h3 => Ref.crash_any w3 (h3.ref hd hr hne) (by omega) (by omega) v ks (hk.keeps h3.keeps_)⟩
theorem spoil_any {P : Nat → Prop} {b : Nat} {D : Dsk} {S : List Nat} (w : World) (h : DiskAt P w b D S) (hn : D.pending.length ≤ 1000000) (i k y : Int) :
    Calls Try.prog 52 #[.pointer (some ⟨b, 0, none⟩), .int .i64 i, .int .i64 k, .int .u8 y] w fun e w' => e = .returned (.int .i64 (D.spoil i k y).1) ∧ After P w w' b (D.spoil i k y).2 S := by
  by_cases hbad : (D.spoil i k y).1 = 0
  · have hd : D.down = false := by
      cases hd : D.down with
      | false => rfl
      | true => unfold Dsk.spoil at hbad; rw [if_pos hd] at hbad; exact absurd hbad (by simp)
    have hi : ¬ (i < 0 ∨ (D.blocks.length : Int) ≤ i) := fun h => by unfold Dsk.spoil at hbad; rw [hd, if_neg (by simp), if_pos h] at hbad; exact absurd hbad (by simp)
    have hk : ¬ (k < 0 ∨ 256 ≤ k) := fun h => by unfold Dsk.spoil at hbad; rw [hd, if_neg (by simp), if_neg hi, if_pos h] at hbad; exact absurd hbad (by simp)
    obtain ⟨i', rfl⟩ : ∃ n : Nat, i = n := ⟨i.toNat, by omega⟩
    obtain ⟨k', rfl⟩ : ∃ n : Nat, k = n := ⟨k.toNat, by omega⟩
    obtain ⟨ho, g1, cur1, pv, ps, rfl, hr⟩ := h
    refine (spoil_good w hr ho hd hn i' k' y (by omega) (by omega)).mono ?_
    rintro e w' ⟨rfl, ha⟩
    exact ⟨by rw [hbad], ha⟩
  · refine (spoil_bad w h i k y hbad).mono ?_
    rintro e w' ⟨rfl, e2, hb⟩
    rw [e2]
    exact ⟨rfl, After.of_below h hb⟩
theorem ref_spoil_any {P : Nat → Prop} {b : Nat} {D : Dsk} {S : List Nat} (w : World) (h : Ref.DiskAt P w b D S) (hn : D.pending.length ≤ 1000000) (i k y : Int) :
    Calls Try.prog 53 #[.pointer (some ⟨b, 0, none⟩), .int .i64 i, .int .i64 k, .int .u8 y] w fun e w' => e = .returned (.int .i64 (D.spoil i k y).1) ∧ Ref.After P w w' b (D.spoil i k y).2 S := by
  by_cases hbad : (D.spoil i k y).1 = 0
  · have hd : D.down = false := by
      cases hd : D.down with
      | false => rfl
      | true => unfold Dsk.spoil at hbad; rw [if_pos hd] at hbad; exact absurd hbad (by simp)
    have hi : ¬ (i < 0 ∨ (D.blocks.length : Int) ≤ i) := fun h => by unfold Dsk.spoil at hbad; rw [hd, if_neg (by simp), if_pos h] at hbad; exact absurd hbad (by simp)
    have hk : ¬ (k < 0 ∨ 256 ≤ k) := fun h => by unfold Dsk.spoil at hbad; rw [hd, if_neg (by simp), if_neg hi, if_pos h] at hbad; exact absurd hbad (by simp)
    obtain ⟨i', rfl⟩ : ∃ n : Nat, i = n := ⟨i.toNat, by omega⟩
    obtain ⟨k', rfl⟩ : ∃ n : Nat, k = n := ⟨k.toNat, by omega⟩
    obtain ⟨ho, g1, cur1, pv, ps, rfl, hr⟩ := h
    refine (Ref.spoil_good w hr ho hd hn i' k' y (by omega) (by omega)).mono ?_
    rintro e w' ⟨rfl, ha⟩
    exact ⟨by rw [hbad], ha⟩
  · refine (Ref.spoil_bad w h i k y hbad).mono ?_
    rintro e w' ⟨rfl, e2, rfl⟩
    rw [e2]
    exact ⟨rfl, Ref.After.refl h⟩
theorem two_spoil (hd : DiskAt P w d D Sd) (hr : Ref.DiskAt P w r D Sr) (hne : ∀ q ∈ Sd, q ∉ Sr) (hp : D.pending.length ≤ 1000000) (i k y : Int) :
    TwoCalls P w d r Sd Sr 52 53 #[.pointer (some ⟨d, 0, none⟩), .int .i64 i, .int .i64 k, .int .u8 y] #[.pointer (some ⟨r, 0, none⟩), .int .i64 i, .int .i64 k, .int .u8 y] (.int .i64 (D.spoil i k y).1) (D.spoil i k y).2 :=
  ⟨spoil_any w hd hp i k y, fun w3 h3 => ref_spoil_any w3 (h3.ref hd hr hne) hp i k y⟩
/-- The state behind two calls. -/
theorem two_after {w0 w1 w2 : World} {E : Dsk} {n : Nat} (hb : Below w0.heap.size w0 w) (hd : DiskAt P w0 d D Sd) (hr : Ref.DiskAt P w0 r D Sr) (hne : ∀ q ∈ Sd, q ∉ Sr) (h1 : After P w w1 d E Sd) (h2 : Ref.After P w1 w2 r E Sr) (hl : E.life ≤ n) (hp : E.pending.length ≤ n) : BothAfter P w0 w2 d r n (Sd ++ Sr) := by
  have hd' := hd.below hb
  have hr' := hr.below hb
  refine BothAfter.behind hb (both_after h1 hd' (h1.ref hd' hr' hne) (fun q hq => ?_) hne h2 hl hp)
  obtain ⟨_, _, hb, _⟩ := hr'.lt q hq
  exact hb.lt
end

end Go.Proofs.Ytbgiklkpinflaaa

namespace Go.Proofs.Ytbgiklkpinflaaa
open Go.RowKit Go.Shelf
attribute [local go_sem ↓] Go.wp_at_zero Go.wp_at_succ

/-- What a call of acted leaves: true, and both disks are the same disk again. -/
def ActedPost (P : Nat → Prop) (w : World) (d r n : Nat) (S : List Nat) (e : Ending) (w' : World) : Prop := e = .returned (.bool true) ∧ BothAfter P w w' d r n S

section
variable {P : Nat → Prop} {d r n : Nat} {D : Dsk} {Sd Sr : List Nat}

set_option maxRecDepth 100000 in
set_option maxHeartbeats 4000000 in
theorem acted_sync (w : World) (hd : DiskAt P w d D Sd) (hr : Ref.DiskAt P w r D Sr) (hne : ∀ q ∈ Sd, q ∉ Sr) (hl : D.life ≤ n) (hp : D.pending.length ≤ n) (hn : n ≤ 1000) (kd : Nat) (i t y : Int) (sh : Bool) (kv : Value) (hm : (kd : Int) % 7 = 2) :
    Calls Try.prog 21 #[.pointer (some ⟨d, 0, none⟩), .pointer (some ⟨r, 0, none⟩), .agg (actCells kd i t y sh kv)] w (ActedPost P w d r (n + 1) (Sd ++ Sr)) := by
  have hb1 : Below w.heap.size w (w.alloc (.cells (actCells kd i t y sh kv) 58)) := (Below.refl _ w).alloc (Nat.le_refl _) _
  have HT := two_sync (hd.below hb1) (hr.below hb1) hne (by omega) (by omega)
  have HE : Hid (∀ w1 w2, After P _ w1 d D.sync.2 Sd → Ref.After P w1 w2 r D.sync.2 Sr → _) := Lib.hid fun w1 w2 h1 h2 => two_after (w1 := w1) (w2 := w2) hb1 hd hr hne h1 h2 (D.sync_le hl hp).1 (D.sync_le hl hp).2
  obtain ⟨x, hx⟩ : ∃ x, x = D.sync.1 := ⟨_, rfl⟩
  rw [← hx] at HT
  have HT := Lib.hid HT
  have tx : (x == x) = true := by simp
  clear hx hd hr
  unfold actCells at *
  go_enter Try.func21, Try.ntmps21
  go_wp2_with (first
    | (go_at_call 47; refine (HT.out.2 _ HA.out).mono ?_; rintro e w4 ⟨rfl, ha4⟩; have HB := Lib.hid ha4; clear ha4)
    | (go_at_call 46; refine HT.out.1.mono ?_; rintro e w3 ⟨rfl, ha3⟩; have HA := Lib.hid ha3; clear ha3))
  go_ret
  exact ⟨rfl, HE.out _ _ HA.out HB.out⟩

set_option maxRecDepth 100000 in
set_option maxHeartbeats 4000000 in
theorem acted_none (w : World) (hd : DiskAt P w d D Sd) (hr : Ref.DiskAt P w r D Sr) (hne : ∀ q ∈ Sd, q ∉ Sr) (hl : D.life ≤ n) (hp : D.pending.length ≤ n) (kd : Nat) (i t y : Int) (sh : Bool) (kv : Value) (hm : (kd : Int) % 7 = 6) :
    Calls Try.prog 21 #[.pointer (some ⟨d, 0, none⟩), .pointer (some ⟨r, 0, none⟩), .agg (actCells kd i t y sh kv)] w (ActedPost P w d r (n + 1) (Sd ++ Sr)) := by
  have hb1 : Below w.heap.size w (w.alloc (.cells (actCells kd i t y sh kv) 58)) := (Below.refl _ w).alloc (Nat.le_refl _) _
  have HE := Lib.hid (Both.refl (n := n + 1) (⟨D, Sd, Sr, rfl, hne, hd, hr, by omega, by omega⟩) hb1)
  clear hd hr hb1
  unfold actCells at *
  go_enter Try.func21, Try.ntmps21
  go_wp2
  go_ret
  exact ⟨rfl, HE.out⟩

set_option maxRecDepth 100000 in
set_option maxHeartbeats 4000000 in
theorem acted_read (w : World) (hd : DiskAt P w d D Sd) (hr : Ref.DiskAt P w r D Sr) (hne : ∀ q ∈ Sd, q ∉ Sr) (hl : D.life ≤ n) (hp : D.pending.length ≤ n) (hn : n ≤ 1000) (kd : Nat) (i t y : Int) (sh : Bool) (kv : Value) (hm : (kd : Int) % 7 = 1) :
    Calls Try.prog 21 #[.pointer (some ⟨d, 0, none⟩), .pointer (some ⟨r, 0, none⟩), .agg (actCells kd i t y sh kv)] w (ActedPost P w d r (n + 1) (Sd ++ Sr)) := by
  have hb1 : Below w.heap.size w (w.alloc (.cells (actCells kd i t y sh kv) 58)) := (Below.refl _ w).alloc (Nat.le_refl _) _
  have hbox : Blk (w.alloc (.cells (actCells kd i t y sh kv) 58)) w.heap.size 58 (actCells kd i t y sh kv) := Blk.new w _ _
  obtain ⟨x, hx⟩ : ∃ x, x = D.read i := ⟨_, rfl⟩
  have HR1 : Hid (Calls Try.prog 44 #[.pointer (some ⟨d, 0, none⟩), .int .i64 i] (w.alloc (.cells (actCells kd i t y sh kv) 58)) (ReadPost (w.alloc (.cells (actCells kd i t y sh kv) 58)) x)) := by
    rw [hx]
    exact read_any _ (hd.below hb1) (by omega) _
  have HR2 : Hid (∀ w1, Below (w.alloc (.cells (actCells kd i t y sh kv) 58)).heap.size (w.alloc (.cells (actCells kd i t y sh kv) 58)) w1 → Calls Try.prog 45 #[.pointer (some ⟨r, 0, none⟩), .int .i64 i] w1 (ReadPost w1 x)) := by
    intro w1 h1
    rw [hx]
    exact Ref.read_any _ ((hr.below hb1).below h1) (by omega) _
  have HC : Hid (∀ w1, Below (w.alloc (.cells (actCells kd i t y sh kv) 58)).heap.size (w.alloc (.cells (actCells kd i t y sh kv) 58)) w1 → w1.cell? ⟨w.heap.size, 1, none⟩ = some (.int .i64 i)) := fun w1 h1 => (hbox.below h1 hbox.lt).cell 1
  have HE : Hid (∀ w4, Below w.heap.size w w4 → BothAfter P w w4 d r (n + 1) (Sd ++ Sr)) := fun w4 h4 => Both.refl (n := n + 1) (⟨D, Sd, Sr, rfl, hne, hd, hr, by omega, by omega⟩) h4
  have HB0 := Lib.hid hb1
  have tx : (x.1 == x.1) = true := by simp
  clear hx hd hr hb1 hbox
  unfold actCells at *
  go_enter Try.func21, Try.ntmps21
  go_wp2_with (first
    | (go_at_call 17; refine (same_calls (conv_got (HG1.out.below_ HB2.out)) (conv_got HG2.out)).mono ?_; rintro e w3 ⟨rfl, hb3⟩; have HB3 := Lib.hid hb3; clear hb3)
    | (go_at_call 45; refine (HR2.out _ HB1.out).mono ?_; rintro e w2 ⟨v2, rfl, hg2, hb2⟩; have HG2 := Lib.hid hg2; have HB2 := Lib.hid hb2; clear hg2 hb2)
    | (go_at_call 44; refine HR1.out.mono ?_; rintro e w1 ⟨v1, rfl, hg1, hb1⟩; have HG1 := Lib.hid hg1; have HB1 := Lib.hid hb1; have c1 := HC.out _ hb1; clear hg1 hb1))
  go_ret
  refine ⟨rfl, HE.out _ ?_⟩
  have a0 := HB0.out
  have a1 := HB1.out
  have a2 := HB2.out
  have a3 := HB3.out
  exact ((a0.trans (a1.mono a0.size)).trans (a2.mono (Nat.le_trans a0.size a1.size))).trans (a3.mono (Nat.le_trans (Nat.le_trans a0.size a1.size) a2.size))

set_option maxRecDepth 100000 in
set_option maxHeartbeats 4000000 in
theorem acted_arm (w : World) (hd : DiskAt P w d D Sd) (hr : Ref.DiskAt P w r D Sr) (hne : ∀ q ∈ Sd, q ∉ Sr) (hl : D.life ≤ n) (hp : D.pending.length ≤ n) (kd : Nat) (i t y : Int) (ht : t ≤ 9223372036854775807) (sh : Bool) (kv : Value) (hm : (kd : Int) % 7 = 3) :
    Calls Try.prog 21 #[.pointer (some ⟨d, 0, none⟩), .pointer (some ⟨r, 0, none⟩), .agg (actCells kd i t y sh kv)] w (ActedPost P w d r (n + 1) (Sd ++ Sr)) := by
  have hb1 : Below w.heap.size w (w.alloc (.cells (actCells kd i t y sh kv) 58)) := (Below.refl _ w).alloc (Nat.le_refl _) _
  have hbox : Blk (w.alloc (.cells (actCells kd i t y sh kv) 58)) w.heap.size 58 (actCells kd i t y sh kv) := Blk.new w _ _
  have HT := Lib.hid (two_arm (hd.below hb1) (hr.below hb1) hne t ht)
  have HE : Hid (∀ w1 w2, After P _ w1 d (D.arm t) Sd → Ref.After P w1 w2 r (D.arm t) Sr → _) := Lib.hid fun w1 w2 h1 h2 => two_after (n := n + 1) (w1 := w1) (w2 := w2) hb1 hd hr hne h1 h2 (by show D.life ≤ _; omega) (by show D.pending.length ≤ _; omega)
  have HC : Hid (∀ w1, After P (w.alloc (.cells (actCells kd i t y sh kv) 58)) w1 d (D.arm t) Sd → w1.cell? ⟨w.heap.size, 2, none⟩ = some (.int .i64 t)) := fun w1 h1 => (h1.blk (hd.below hb1) hbox (by decide) (by decide) (by decide)).cell 2
  clear hd hr hb1 hbox
  unfold actCells at *
  go_enter Try.func21, Try.ntmps21
  go_wp2_with (first
    | (go_at_call 49; refine (HT.out.2 _ HA.out).mono ?_; rintro e w4 ⟨rfl, ha4⟩; have HB := Lib.hid ha4; clear ha4)
    | (go_at_call 48; refine HT.out.1.mono ?_; rintro e w3 ⟨rfl, ha3⟩; have HA := Lib.hid ha3; have c3 := HC.out _ ha3; clear ha3))
  go_ret
  exact ⟨rfl, HE.out _ _ HA.out HB.out⟩

set_option maxRecDepth 100000 in
set_option maxHeartbeats 4000000 in
theorem acted_crash (w : World) (hd : DiskAt P w d D Sd) (hr : Ref.DiskAt P w r D Sr) (hne : ∀ q ∈ Sd, q ∉ Sr) (hl : D.life ≤ n) (hp : D.pending.length ≤ n) (hn : n ≤ 1000) (kd : Nat) (i t y : Int) (sh : Bool) (kv : Value) (ks : List Bool) (hk : KeepAt w (Sd ++ Sr) kv ks) (hm : (kd : Int) % 7 = 4) :
    Calls Try.prog 21 #[.pointer (some ⟨d, 0, none⟩), .pointer (some ⟨r, 0, none⟩), .agg (actCells kd i t y sh kv)] w (ActedPost P w d r (n + 1) (Sd ++ Sr)) := by
  have hb1 : Below w.heap.size w (w.alloc (.cells (actCells kd i t y sh kv) 58)) := (Below.refl _ w).alloc (Nat.le_refl _) _
  have hbox : Blk (w.alloc (.cells (actCells kd i t y sh kv) 58)) w.heap.size 58 (actCells kd i t y sh kv) := Blk.new w _ _
  have hk1 : KeepAt (w.alloc (.cells (actCells kd i t y sh kv) 58)) (Sd ++ Sr) kv ks := KeepAt.keeps (S := []) hk (Keeps.of_below hb1)
  have HT := Lib.hid (two_crash (hd.below hb1) (hr.below hb1) hne (by omega) (by omega) hk1)
  have HE : Hid (∀ w1 w2, After P _ w1 d (D.crash (keepOf ks)) Sd → Ref.After P w1 w2 r (D.crash (keepOf ks)) Sr → _) := Lib.hid fun w1 w2 h1 h2 => two_after (n := n + 1) (w1 := w1) (w2 := w2) hb1 hd hr hne h1 h2 (D.crash_le _ hl hp).1 (D.crash_le _ hl hp).2
  have HC : Hid (∀ w1, After P (w.alloc (.cells (actCells kd i t y sh kv) 58)) w1 d (D.crash (keepOf ks)) Sd → w1.cell? ⟨w.heap.size, 5, none⟩ = some kv) := fun w1 h1 => (h1.blk (hd.below hb1) hbox (by decide) (by decide) (by decide)).cell 5
  have hkv : kv.oneCell' = true := by
    obtain ⟨A, c, rfl, _⟩ := hk
    rfl
  obtain ⟨A, nn, c, rfl⟩ : ∃ A n c, kv = .slice A n c := by
    obtain ⟨A, c, rfl, _⟩ := hk
    exact ⟨_, _, _, rfl⟩
  clear hd hr hb1 hbox hk hk1 hkv
  unfold actCells at *
  go_enter Try.func21, Try.ntmps21
  go_wp2_with (first
    | (go_at_call 51; refine (HT.out.2 _ HA.out).mono ?_; rintro e w4 ⟨rfl, ha4⟩; have HB := Lib.hid ha4; clear ha4)
    | (go_at_call 50; refine HT.out.1.mono ?_; rintro e w3 ⟨rfl, ha3⟩; have HA := Lib.hid ha3; have c3 := HC.out _ ha3; clear ha3))
  go_ret
  exact ⟨rfl, HE.out _ _ HA.out HB.out⟩

end

end Go.Proofs.Ytbgiklkpinflaaa

namespace Go.Proofs.Ytbgiklkpinflaaa
open Go.RowKit Go.Shelf
attribute [local go_sem ↓] Go.wp_at_zero Go.wp_at_succ

section
variable {P : Nat → Prop} {d r n : Nat} {D : Dsk} {Sd Sr : List Nat}

set_option maxRecDepth 100000 in
set_option maxHeartbeats 1000000 in
theorem acted_spoil (w : World) (hd : DiskAt P w d D Sd) (hr : Ref.DiskAt P w r D Sr) (hne : ∀ q ∈ Sd, q ∉ Sr) (hl : D.life ≤ n) (hp : D.pending.length ≤ n) (hn : n ≤ 1000) (kd : Nat) (i t y : Int) (sh : Bool) (kv : Value) (hm : (kd : Int) % 7 = 5) :
    Calls Try.prog 21 #[.pointer (some ⟨d, 0, none⟩), .pointer (some ⟨r, 0, none⟩), .agg (actCells kd i t y sh kv)] w (ActedPost P w d r (n + 1) (Sd ++ Sr)) := by
  obtain ⟨W1, hW1⟩ : ∃ W1, W1 = w.alloc (.cells (actCells kd i t y sh kv) 58) := ⟨_, rfl⟩
  have hb1 : Below w.heap.size w W1.drew := by rw [hW1]; exact ((Below.refl _ w).alloc (Nat.le_refl _) _).drew_
  have hbox : Blk W1.drew w.heap.size 58 (actCells kd i t y sh kv) := by rw [hW1]; exact Blk.new w _ _
  have HT := two_spoil (hd.below hb1) (hr.below hb1) hne (by omega) i t y
  have HE : Hid (∀ w1 w2, After P _ w1 d (D.spoil i t y).2 Sd → Ref.After P w1 w2 r (D.spoil i t y).2 Sr → _) := Lib.hid fun w1 w2 h1 h2 => two_after (n := n + 1) (w1 := w1) (w2 := w2) hb1 hd hr hne h1 h2 (D.spoil_le i t y hl hp).1 (D.spoil_le i t y hl hp).2
  have HC : Hid (∀ w1, After P W1.drew w1 d (D.spoil i t y).2 Sd → Blk w1 w.heap.size 58 (actCells kd i t y sh kv)) := fun w1 h1 => h1.blk (hd.below hb1) hbox (by decide) (by decide) (by decide)
  have HC2 : Hid (∀ w1 w2, After P W1.drew w1 d (D.spoil i t y).2 Sd → Ref.After P w1 w2 r (D.spoil i t y).2 Sr → Blk w2 w.heap.size 58 (actCells kd i t y sh kv)) := fun w1 w2 h1 h2 => h2.blk (h1.ref (hd.below hb1) (hr.below hb1) hne) (h1.blk (hd.below hb1) hbox (by decide) (by decide) (by decide)) (by decide) (by decide) (by decide)
  obtain ⟨x, hx⟩ : ∃ x, x = (D.spoil i t y).1 := ⟨_, rfl⟩
  rw [← hx] at HT
  have HT := Lib.hid HT
  have tx : (x == x) = true := by simp
  have q1 : W1.cell? ⟨w.heap.size, 1, none⟩ = some (.int .i64 i) := hbox.cell 1
  have q2 : W1.cell? ⟨w.heap.size, 2, none⟩ = some (.int .i64 t) := hbox.cell 2
  have q3 : W1.cell? ⟨w.heap.size, 3, none⟩ = some (.int .u8 y) := hbox.cell 3
  have HW1 := Lib.hid hW1
  clear hx hd hr hb1 hbox hW1
  unfold actCells at *
  go_enter Try.func21, Try.ntmps21
  go_wp2
  rw [← HW1.out]
  go_region_held3 (fun w' => w'.cell? ⟨w.heap.size, 1, none⟩ = some (.int .i64 i) ∧ w'.cell? ⟨w.heap.size, 2, none⟩ = some (.int .i64 t) ∧ w'.cell? ⟨w.heap.size, 3, none⟩ = some (.int .u8 y)) (go_keep)
    ((first
      | (go_at_call 53; refine (HT.out.2 _ HA.out).mono ?_; rintro e w4 ⟨rfl, ha4⟩; have HB := Lib.hid ha4; have b4 := HC2.out _ _ HA.out ha4; have d1 : w4.cell? ⟨w.heap.size, 1, none⟩ = some (.int .i64 i) := b4.cell 1; have d2 : w4.cell? ⟨w.heap.size, 2, none⟩ = some (.int .i64 t) := b4.cell 2; have d3 : w4.cell? ⟨w.heap.size, 3, none⟩ = some (.int .u8 y) := b4.cell 3; clear ha4 b4)
      | (go_at_call 52; refine HT.out.1.mono ?_; rintro e w3 ⟨rfl, ha3⟩; have HA := Lib.hid ha3; have b3 := HC.out _ ha3; have c1 : w3.cell? ⟨w.heap.size, 1, none⟩ = some (.int .i64 i) := b3.cell 1; have c2 : w3.cell? ⟨w.heap.size, 2, none⟩ = some (.int .i64 t) := b3.cell 2; have c3 : w3.cell? ⟨w.heap.size, 3, none⟩ = some (.int .u8 y) := b3.cell 3; clear ha3 b3)))
  all_goals
    go_wp2
    go_ret
    exact ⟨rfl, HE.out _ _ HA.out HB.out⟩

set_option maxRecDepth 100000 in
set_option maxHeartbeats 1000000 in
theorem acted_write (w : World) (hd : DiskAt P w d D Sd) (hr : Ref.DiskAt P w r D Sr) (hne : ∀ q ∈ Sd, q ∉ Sr) (hl : D.life ≤ n) (hp : D.pending.length ≤ n) (hn : n ≤ 1000) (kd : Nat) (i t y : Int) (sh : Bool) (kv : Value) (hkv : kv.oneCell' = true) (hm : (kd : Int) % 7 = 0) :
    Calls Try.prog 21 #[.pointer (some ⟨d, 0, none⟩), .pointer (some ⟨r, 0, none⟩), .agg (actCells kd i t y sh kv)] w (ActedPost P w d r (n + 1) (Sd ++ Sr)) := by
  obtain ⟨W1, hW1⟩ : ∃ W1, W1 = w.alloc (.cells (actCells kd i t y sh kv) 58) := ⟨_, rfl⟩
  have HB1 : Hid (Below w.heap.size w W1) := by rw [hW1]; exact (Below.refl _ w).alloc (Nat.le_refl _) _
  have HBOX : Hid (Blk W1 w.heap.size 58 (actCells kd i t y sh kv)) := by rw [hW1]; exact Blk.new w _ _
  have HK : Hid (Calls Try.prog 42 #[.agg #[.int .u8 (kd : Int), .int .i64 i, .int .i64 t, .int .u8 y, .bool sh, kv]] W1 fun e w' => ∃ v l, e = .returned v ∧ BytesAt (W1.heap.size ≤ ·) w' v l ∧ Below W1.heap.size W1 w') := blockOf_calls W1 kd i t y sh kv
  rw [hW1] at HK
  have HW1 := Lib.hid hW1
  have HD := Lib.hid hd
  have HR := Lib.hid hr
  clear hd hr hW1
  unfold actCells at *
  go_enter Try.func21, Try.ntmps21
  go_wp2_with (go_at_call 42; refine HK.out.mono ?_; rintro e w2 ⟨v, l, rfl, hB2, hb2⟩; have HB2 := Lib.hid hB2; have Hb2 := Lib.hid hb2; clear hB2 hb2)
  have hb2 := Hb2.out
  rw [← HW1.out] at hb2
  have hbw : Below w.heap.size w w2.drew := (HB1.out.trans (hb2.mono HB1.out.size)).drew_
  have hbox : Blk w2.drew w.heap.size 58 #[.int .u8 (kd : Int), .int .i64 i, .int .i64 t, .int .u8 y, .bool sh, kv] := (HBOX.out.below hb2 HBOX.out.lt).drew
  have hB2 : BytesAt (fun _ => True) w2.drew v l := (HB2.out.mono fun _ _ => trivial)
  have HT := two_write (HD.out.below hbw) (HR.out.below hbw) hne (by omega) (by omega) i hB2
  have HE : Hid (∀ w3 w4, After P _ w3 d (D.write i l).2 Sd → Ref.After P w3 w4 r (D.write i l).2 Sr → _) := Lib.hid fun w3 w4 h3 h4 => two_after (n := n + 1) (w1 := w3) (w2 := w4) hbw HD.out HR.out hne h3 h4 (D.write_le i l hl hp).1 (D.write_le i l hl hp).2
  have HC : Hid (∀ w1, After P w2.drew w1 d (D.write i l).2 Sd → Blk w1 w.heap.size 58 #[.int .u8 (kd : Int), .int .i64 i, .int .i64 t, .int .u8 y, .bool sh, kv]) := fun w1 h1 => h1.blk (HD.out.below hbw) hbox (by decide) (by decide) (by decide)
  have HC2 : Hid (∀ w1 w3, After P w2.drew w1 d (D.write i l).2 Sd → Ref.After P w1 w3 r (D.write i l).2 Sr → Blk w3 w.heap.size 58 #[.int .u8 (kd : Int), .int .i64 i, .int .i64 t, .int .u8 y, .bool sh, kv]) := fun w1 w3 h1 h2 => h2.blk (h1.ref (HD.out.below hbw) (HR.out.below hbw) hne) (h1.blk (HD.out.below hbw) hbox (by decide) (by decide) (by decide)) (by decide) (by decide) (by decide)
  obtain ⟨x, hx⟩ : ∃ x, x = (D.write i l).1 := ⟨_, rfl⟩
  rw [← hx] at HT
  have HT := Lib.hid HT
  have tx : (x == x) = true := by simp
  have q1 : w2.cell? ⟨w.heap.size, 1, none⟩ = some (.int .i64 i) := hbox.cell 1
  clear hx hb2 hbw hbox hB2
  go_region_held3 (fun w' => w'.cell? ⟨w.heap.size, 1, none⟩ = some (.int .i64 i)) (go_keep)
    ((first
      | (go_at_call 43; refine (HT.out.2 _ HA.out).mono ?_; rintro e w4 ⟨rfl, ha4⟩; have HB := Lib.hid ha4; have b4 := HC2.out _ _ HA.out ha4; have d1 : w4.cell? ⟨w.heap.size, 1, none⟩ = some (.int .i64 i) := b4.cell 1; clear ha4 b4)
      | (go_at_call 37; refine HT.out.1.mono ?_; rintro e w3 ⟨rfl, ha3⟩; have HA := Lib.hid ha3; have b3 := HC.out _ ha3; have c1 : w3.cell? ⟨w.heap.size, 1, none⟩ = some (.int .i64 i) := b3.cell 1; clear ha3 b3)))
  all_goals
    go_wp2
    go_ret
    exact ⟨rfl, HE.out _ _ HA.out HB.out⟩

/-- A call of both disks, of whatever kind. -/
theorem acted_calls (w : World) {S : List Nat} (h : Both P w d r n S) (hn : n ≤ 1000) (kd : Nat) (i t y : Int) (ht : t ≤ 9223372036854775807) (sh : Bool) (kv : Value) (ks : List Bool) (hk : KeepAt w S kv ks) :
    Calls Try.prog 21 #[.pointer (some ⟨d, 0, none⟩), .pointer (some ⟨r, 0, none⟩), .agg (actCells kd i t y sh kv)] w (ActedPost P w d r (n + 1) S) := by
  obtain ⟨D, Sd, Sr, rfl, hne, hd, hr, hl, hp⟩ := h
  have hkv : kv.oneCell' = true := by
    obtain ⟨A, c, rfl, _⟩ := hk
    rfl
  have h7 : kd % 7 < 7 := Nat.mod_lt _ (by decide)
  have e7 : (kd : Int) % 7 = ((kd % 7 : Nat) : Int) := by omega
  rcases Nat.lt_or_ge (kd % 7) 1 with h | h
  · exact acted_write w hd hr hne hl hp hn kd i t y sh kv hkv (by omega)
  rcases Nat.lt_or_ge (kd % 7) 2 with h | h
  · exact acted_read w hd hr hne hl hp hn kd i t y sh kv (by omega)
  rcases Nat.lt_or_ge (kd % 7) 3 with h | h
  · exact acted_sync w hd hr hne hl hp hn kd i t y sh kv (by omega)
  rcases Nat.lt_or_ge (kd % 7) 4 with h | h
  · exact acted_arm w hd hr hne hl hp kd i t y ht sh kv (by omega)
  rcases Nat.lt_or_ge (kd % 7) 5 with h | h
  · exact acted_crash w hd hr hne hl hp hn kd i t y sh kv ks hk (by omega)
  rcases Nat.lt_or_ge (kd % 7) 6 with h | h
  · exact acted_spoil w hd hr hne hl hp hn kd i t y sh kv (by omega)
  · exact acted_none w hd hr hne hl hp kd i t y sh kv (by omega)

end

end Go.Proofs.Ytbgiklkpinflaaa
