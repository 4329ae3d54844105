/- The argument of the laws of disks: a list of calls, read out of memory. StoreDisks: the walk. -/
import Derived.Test.YtbgiklkpinflaaaActsB
import Derived.Deep.Slices
import Derived.Deep.Fields
import Derived.Deep.Grids
import Derived.ChangeSame

namespace Go.Proofs.Ytbgiklkpinflaaa
open Go.RowKit Go.Shelf

/-- The k-th call of a list that came in: its six cells, and what its list of bools holds. -/
def ActRow (w : World) (gb go k : Nat) : Prop :=
  ∃ (kd : Nat) (i t y : Int) (sh : Bool) (kv : Value) (ks : List Bool), w.cell? ⟨gb, go + k * 6, none⟩ = some (.int .u8 (kd : Int)) ∧ w.cell? ⟨gb, go + k * 6 + 1, none⟩ = some (.int .i64 i) ∧ w.cell? ⟨gb, go + k * 6 + 2, none⟩ = some (.int .i64 t) ∧ w.cell? ⟨gb, go + k * 6 + 3, none⟩ = some (.int .u8 y) ∧
    w.cell? ⟨gb, go + k * 6 + 4, none⟩ = some (.bool sh) ∧ w.cell? ⟨gb, go + k * 6 + 5, none⟩ = some kv ∧ t ≤ 9223372036854775807 ∧ KeepAt w [] kv ks
/-- A list of calls that came in. -/
def ActArg (w : World) (A : Option Addr) (n : Nat) : Prop := n ≤ maxLen ∧ ∀ k, k < n → ∃ gb go, A = some ⟨gb, go, none⟩ ∧ ActRow w gb go k

theorem KeepAt.fresh {w w1 : World} {v : Value} {ks : List Bool} (h : KeepAt w [] v ks) (hb : Below w.heap.size w w1) {S : List Nat} (hS : ∀ q ∈ S, w.heap.size ≤ q) : KeepAt w1 S v ks := by
  obtain ⟨A, c, e, hl, hk⟩ := h
  refine ⟨A, c, e, hl, fun j x hj => ?_⟩
  obtain ⟨a, e1, _, e3⟩ := hk j x hj
  have hlt : (a.add j).block < w.heap.size := World.block_lt_of_cell? w _ e3
  exact ⟨a, e1, fun hm => by have := hS _ hm; rw [add_block] at hlt; omega, (hb.cell hlt).trans e3⟩
theorem ActRow.below {w w1 : World} {gb go k : Nat} (h : ActRow w gb go k) (hb : Below w.heap.size w w1) :
    ∃ (kd : Nat) (i t y : Int) (sh : Bool) (kv : Value) (ks : List Bool), w1.cell? ⟨gb, go + k * 6, none⟩ = some (.int .u8 (kd : Int)) ∧ w1.cell? ⟨gb, go + k * 6 + 1, none⟩ = some (.int .i64 i) ∧ w1.cell? ⟨gb, go + k * 6 + 2, none⟩ = some (.int .i64 t) ∧ w1.cell? ⟨gb, go + k * 6 + 3, none⟩ = some (.int .u8 y) ∧
    w1.cell? ⟨gb, go + k * 6 + 4, none⟩ = some (.bool sh) ∧ w1.cell? ⟨gb, go + k * 6 + 5, none⟩ = some kv ∧ t ≤ 9223372036854775807 ∧ ∀ S : List Nat, (∀ q ∈ S, w.heap.size ≤ q) → KeepAt w1 S kv ks := by
  obtain ⟨kd, i, t, y, sh, kv, ks, h0, h1, h2, h3, h4, h5, ht, hk⟩ := h
  have g : ∀ {p : Addr} {v : Value}, w.cell? p = some v → w1.cell? p = some v := fun h => (hb.cell (World.block_lt_of_cell? w _ h)).trans h
  exact ⟨kd, i, t, y, sh, kv, ks, g h0, g h1, g h2, g h3, g h4, g h5, ht, fun S hS => hk.fresh hb hS⟩

end Go.Proofs.Ytbgiklkpinflaaa

namespace Go.Proofs.Ytbgiklkpinflaaa
open Go.ChangeShapes Go.WideShapes Go.Deep
section
variable {H : Type} {enc : TypeId × Value → H} {P : Program} {w : World} {base : Nat} {spare : Nat → Bool} {held : Bool}
theorem open_slice_fields {t e : TypeId} {fs : Array Field} {fuel : Nat} {cs : List Value} {x : DataW H × List MemPlace} (ht : P.underlying t = some (.slice e)) (he : P.underlying e = some (.struct fs))
    (hone : oneCellFields P fs = true) (hC : P.cellsOf e = fs.size) (h : DataW.trod enc P w base spare held fuel t cs = some x) :
    (cs = [.slice none 0 0] ∧ x = (.nil, [])) ∨
    ∃ (a : Addr) (len cap m : Nat) (D : Nat → DataW H) (Pl : Nat → List MemPlace), cs = [.slice (some a) len cap] ∧ base ≤ a.block ∧ len ≤ cap ∧ cap ≤ maxLen ∧ m = (if spare a.block then cap else len) ∧
      x = (.slice ((List.range len).map D) ((List.range (m - len)).map fun j => D (len + j)), MemPlace.row a (m * fs.size) ++ (List.range m).flatMap Pl) ∧
      ∀ i, i < m → ∃ (ys : List (DataW H × List MemPlace)) (n : Nat), D i = .agg (ys.map (·.1)) ∧ Pl i = ys.flatMap (·.2) ∧ ys.length = fs.size ∧
        ∀ (j : Nat) (f : Field), fs[j]? = some f → ∃ (v : Value) (y : DataW H × List MemPlace), w.cell? (a.add (i * fs.size + j)) = some v ∧ ys[j]? = some y ∧ DataW.trod enc P w base spare held n f.type [v] = some y := by
  rcases open_slice ht h with h0 | ⟨a, len, cap, m, n, D, Pl, hcs, hb, hl, hm, hmm, hx, hi⟩
  · exact .inl h0
  · refine .inr ⟨a, len, cap, m, D, Pl, hcs, hb, hl, hm, hmm, by rw [hC] at hx; exact hx, fun i him => ?_⟩
    obtain ⟨cs', hc, ht'⟩ := hi i him
    rw [hC] at hc
    obtain ⟨ys, n', hn', hy, hlen, hyl, hf⟩ := DataW.trod_struct he ht'
    obtain ⟨_, hcl, hat⟩ := World.cells?_some hc
    simp only [Prod.mk.injEq] at hy
    refine ⟨ys, n', hy.1, hy.2, hyl, fun j f hj => ?_⟩
    obtain ⟨ho, hk⟩ := hone_of hone j f hj
    have hjl : j < fs.size := (Array.getElem?_eq_some_iff.1 hj).1
    have hcell := hat j hjl
    have hv : cs'[j]? = some (cs'[j]'(by omega)) := List.getElem?_eq_getElem (by omega)
    have h1 := hf j f hj
    rw [ho, hk] at h1
    have hone' : (cs'.drop j).take 1 = [cs'[j]'(by omega)] := by
      rw [List.drop_eq_getElem_cons (by omega)]
      rfl
    rw [hone'] at h1
    have hys : ys[j]? = some (ys[j]'(by omega)) := List.getElem?_eq_getElem (by omega)
    refine ⟨_, _, ?_, hys, h1.trans hys⟩
    rw [← Go.Deep.add_add, hcell, hv]
end
/-- Bools that came in. -/
theorem keepAt_of {H : Type} {enc : TypeId × Value → H} {w : World} {held : Bool} {fuel : Nat} {v : Value} {x : DataW H × List MemPlace} (h : DataW.trod enc Try.prog w 0 (fun _ => true) held fuel 56 [v] = some x) : ∃ ks, KeepAt w [] v ks := by
  rcases open_bools Try.underlying56 Try.underlying4 (by kernel_rfl) h with ⟨hcs, _⟩ | ⟨a, len, cap, B, hcs, _, hl, hm, _, hc⟩
  · simp only [List.cons.injEq, and_true] at hcs
    subst hcs
    exact ⟨[], none, 0, rfl, by decide, fun k x h => by simp at h⟩
  · simp only [List.cons.injEq, and_true] at hcs
    subst hcs
    refine ⟨(List.range len).map B, some a, cap, by simp, ?_, fun k x h => ?_⟩
    · have : maxLen ≤ 9223372036854775807 := by unfold maxLen; omega
      simp only [List.length_map, List.length_range]
      omega
    · simp only [List.getElem?_map] at h
      have hk : k < len := by
        rcases Nat.lt_or_ge k len with h' | h'
        · exact h'
        · rw [List.getElem?_eq_none (by simpa using h')] at h; cases h
      rw [List.getElem?_range hk] at h
      simp only [Option.map_some, Option.some.injEq] at h
      subst h
      exact ⟨a, rfl, by simp, hc k (by omega)⟩
theorem actArg_of {H : Type} {enc : TypeId × Value → H} {w : World} {held : Bool} {A : Option Addr} {n c : Nat} {d : DataW H} {p : List MemPlace} (h : DataW.Trod enc Try.prog w 0 (fun _ => true) held 50 (.slice A n c) d p) : ActArg w A n := by
  obtain ⟨fuel, hf⟩ := h
  rcases open_slice_fields Try.underlying50 Try.underlying58 (by kernel_rfl) (by kernel_rfl) hf with ⟨hcs, _⟩ | ⟨a, len, cap, m, D, Pl, hcs, _, hl, hm, hmm, _, hi⟩
  · simp [Value.cells] at hcs
    obtain ⟨rfl, rfl, rfl⟩ := hcs
    exact ⟨Nat.zero_le _, fun k hk => absurd hk (Nat.not_lt_zero _)⟩
  · simp [Value.cells] at hcs
    obtain ⟨rfl, rfl, rfl⟩ := hcs
    simp only [if_true] at hmm
    subst hmm
    refine ⟨Nat.le_trans hl hm, fun k hk => ?_⟩
    obtain ⟨gb, go, sp⟩ := a
    have hsp : sp = none := by
      obtain ⟨ys, n', _, _, _, hj⟩ := hi 0 (by omega)
      obtain ⟨v0, y0, c0, _, t0⟩ := hj 0 _ rfl
      rw [Nat.zero_mul] at c0
      simpa [Addr.add] using World.cell?_spot c0
    subst hsp
    have hadd : ∀ m, (⟨gb, go, none⟩ : Addr).add m = ⟨gb, go + m, none⟩ := fun m => by unfold Addr.add; split <;> simp_all
    refine ⟨gb, go, rfl, ?_⟩
    obtain ⟨ys, n', _, _, _, hj⟩ := hi k (by omega)
    obtain ⟨v0, y0, c0, _, t0⟩ := hj 0 _ rfl
    obtain ⟨v1, y1, c1, _, t1⟩ := hj 1 _ rfl
    obtain ⟨v2, y2, c2, _, t2⟩ := hj 2 _ rfl
    obtain ⟨v3, y3, c3, _, t3⟩ := hj 3 _ rfl
    obtain ⟨v4, y4, c4, _, t4⟩ := hj 4 _ rfl
    obtain ⟨v5, y5, c5, _, t5⟩ := hj 5 _ rfl
    rw [hadd] at c0 c1 c2 c3 c4 c5
    obtain ⟨x0, e0, _, w0⟩ := DataW.trod_int Try.underlying5 t0
    obtain ⟨x1, e1, _, w1⟩ := DataW.trod_int Try.underlying3 t1
    obtain ⟨x2, e2, _, w2⟩ := DataW.trod_int Try.underlying3 t2
    obtain ⟨x3, e3, _, w3⟩ := DataW.trod_int Try.underlying5 t3
    obtain ⟨x4, e4, _⟩ := DataW.trod_bool Try.underlying4 t4
    obtain ⟨ks, hks⟩ := keepAt_of t5
    simp only [List.cons.injEq, and_true] at e0 e1 e2 e3 e4
    subst e0 e1 e2 e3 e4
    have m0 : IntKind.u8.min = 0 := rfl
    have m2 : IntKind.i64.max = 9223372036854775807 := rfl
    have b0 : 0 ≤ x0 := by simp only [Lit.wf, Bool.and_eq_true, decide_eq_true_eq] at w0; omega
    have b2 : x2 ≤ 9223372036854775807 := by simp only [Lit.wf, Bool.and_eq_true, decide_eq_true_eq] at w2; omega
    obtain ⟨kd, rfl⟩ := Int.eq_ofNat_of_zero_le b0
    exact ⟨kd, x1, x2, x3, x4, v5, ks, c0, c1, c2, c3, c4, c5, b2, hks⟩

end Go.Proofs.Ytbgiklkpinflaaa

namespace Go.Proofs.Ytbgiklkpinflaaa
open Go.RowKit Go.Shelf
attribute [local go_sem ↓] Go.wp_at_zero Go.wp_at_succ

/-- Both disks lie in memory made since w0. -/
def Pair (w0 w : World) (d r n : Nat) : Prop := ∃ S, Both (w0.heap.size ≤ ·) w d r n S ∧ (∀ q ∈ S, w0.heap.size ≤ q) ∧ Below w0.heap.size w0 w
section
variable {w0 w w1 : World} {d r n : Nat}
theorem Pair.below (h : Pair w0 w d r n) (hb : Below w.heap.size w w1) : Pair w0 w1 d r n := by
  obtain ⟨S, a, c, e⟩ := h
  exact ⟨S, a.below hb, c, e.trans (hb.mono e.size)⟩
theorem pair_new {D : Dsk} {Sd Sr : List Nat} {w2 : World} (h1 : DiskAt (w0.heap.size ≤ ·) w1 d D Sd) (hSd : ∀ k ∈ Sd, w0.heap.size ≤ k) (b1 : Below w0.heap.size w0 w1) (h2 : Ref.DiskAt (w0.heap.size ≤ ·) w2 r D Sr) (hSr : ∀ k ∈ Sr, w1.heap.size ≤ k) (b2 : Below w1.heap.size w1 w2) (hl : D.life ≤ n) (hp : D.pending.length ≤ n) : Pair w0 w2 d r n := by
  refine ⟨Sd ++ Sr, ⟨D, Sd, Sr, rfl, fun q hq hq2 => ?_, h1.below b2, h2, hl, hp⟩, fun q hq => ?_, b1.trans (b2.mono b1.size)⟩
  · obtain ⟨_, _, hb, _⟩ := h1.lt q hq
    have := hb.lt
    have := hSr q hq2
    omega
  · rcases List.mem_append.1 hq with h | h
    · exact hSd q h
    · exact Nat.le_trans b1.size (hSr q h)
theorem Pair.acted (h : Pair w0 w d r n) (hn : n ≤ 1000) {kd : Nat} {i t y : Int} (ht : t ≤ 9223372036854775807) {sh : Bool} {kv : Value} {ks : List Bool} (hk : ∀ S : List Nat, (∀ q ∈ S, w0.heap.size ≤ q) → KeepAt w S kv ks) :
    Calls Try.prog 21 #[.pointer (some ⟨d, 0, none⟩), .pointer (some ⟨r, 0, none⟩), .agg #[.int .u8 (kd : Int), .int .i64 i, .int .i64 t, .int .u8 y, .bool sh, kv]] w fun e w' => e = .returned (.bool true) ∧ Pair w0 w' d r (n + 1) := by
  obtain ⟨S, a, c, e⟩ := h
  refine (acted_calls w a hn kd i t y ht sh kv ks (hk S c)).mono ?_
  rintro e' w' ⟨rfl, S', a', c', k'⟩
  refine ⟨rfl, S', a', fun q hq => ?_, below_keeps e k' e.size fun q hq => c q hq⟩
  rcases c' q hq with h | h
  · exact c q h
  · exact Nat.le_trans e.size h
theorem Pair.alike (h : Pair w0 w d r n) (hn : n ≤ 1000) :
    Calls Try.prog 22 #[.pointer (some ⟨d, 0, none⟩), .pointer (some ⟨r, 0, none⟩)] w fun e w' => e = .returned (.bool true) ∧ Pair w0 w' d r n := by
  have h' := h
  obtain ⟨S, a, c, e⟩ := h
  refine (alike_calls a (by omega)).mono ?_
  rintro e' w' ⟨rfl, hb⟩
  exact ⟨rfl, h'.below hb⟩
end

set_option maxRecDepth 100000 in
set_option maxHeartbeats 4000000 in
theorem disks_bad (w : World) (bl : Int) (hbl : bl < 4 ∨ 1024 < bl) (A : Option Addr) (n c : Nat) :
    Calls Try.prog 5 #[.int .i64 bl, .slice A n c] w fun e w' => e = .returned (.bool true) ∧ Below w.heap.size w w' := by
  have H1 := Lib.hid (newDisk_bad bl w hbl)
  have H2 := Lib.hid (Ref.newDisk_bad bl w hbl)
  go_enter Try.func5, Try.ntmps5
  go_wp2_with (first
    | (go_at_call 8; refine (awake_calls _).mono ?_; rintro e w3 ⟨rfl, hb3⟩; have HB3 := Lib.hid hb3; clear hb3)
    | (go_at_call 20; refine H2.out.mono ?_; rintro e w2 ⟨rfl, rfl⟩)
    | (go_at_call 19; refine H1.out.mono ?_; rintro e w1 ⟨rfl, rfl⟩))
  go_ret
  exact ⟨rfl, HB3.out⟩

set_option maxRecDepth 100000 in
set_option maxHeartbeats 4000000 in
theorem disks_good (w : World) (m : Nat) (h4 : 4 ≤ m) (h1024 : m ≤ 1024) (A : Option Addr) (n c : Nat) (hA : ActArg w A n) :
    Calls Try.prog 5 #[.int .i64 (m : Int), .slice A n c] w fun e w' => e = .returned (.bool true) ∧ Below w.heap.size w w' := by
  have H1 := Lib.hid (newDisk_good (w.heap.size ≤ ·) m w h4 h1024 fun _ h => h)
  have H2 : Hid (∀ w1 : World, w.heap.size ≤ w1.heap.size → _) := Lib.hid fun w1 (h1 : w.heap.size ≤ w1.heap.size) => Ref.newDisk_good (w.heap.size ≤ ·) m w1 h4 h1024 fun _ h => Nat.le_trans h1 h
  have HA := Lib.hid hA
  have hmax := hA.1
  unfold maxLen at hmax
  clear hA
  by_cases hbig : 12 < m ∨ 30 < n
  · by_cases h12 : 12 < m
    all_goals
      first
        | (have t1 : decide ((12 : Int) < m) = true := by simp; omega)
        | (have t1 : decide ((12 : Int) < m) = false := by simp; omega
           have t2 : decide ((30 : Int) < n) = true := by simp; omega)
      clear hbig h12
      go_enter Try.func5, Try.ntmps5
      go_wp2_with (first
        | (go_at_call 8; refine (awake_calls _).mono ?_; rintro e w4 ⟨rfl, hb4⟩; have HB4 := Lib.hid (HP2.out.below hb4); clear hb4)
        | (go_at_call 20; refine (H2.out w1 HB1.out.size).mono ?_; rintro e w2 ⟨rfl, ⟨Sr, hr, hSr⟩, hb2⟩; have HP2 := Lib.hid (pair_new (n := 0) HD1.out HS1.out HB1.out hr hSr hb2 (Nat.le_refl _) (Nat.le_refl _)); clear hr hSr hb2)
        | (go_at_call 19; refine H1.out.mono ?_; rintro e w1 ⟨rfl, ⟨Sd, hd, hSd⟩, hb1⟩; have HD1 := Lib.hid hd; have HS1 := Lib.hid hSd; have HB1 := Lib.hid hb1; clear hd hSd hb1))
      go_ret
      obtain ⟨_, _, _, hb⟩ := HB4.out
      exact ⟨rfl, hb⟩
  · have t1 : decide ((12 : Int) < m) = false := by simp; omega
    have t2 : decide ((30 : Int) < n) = false := by simp; omega
    have hn30 : n ≤ 30 := by omega
    clear hbig
    go_enter Try.func5, Try.ntmps5
    go_wp2_with (first
      | (go_at_call 20; refine (H2.out w1 HB1.out.size).mono ?_; rintro e w2 ⟨rfl, ⟨Sr, hr, hSr⟩, hb2⟩; have HP2 := Lib.hid (pair_new (n := 0) HD1.out HS1.out HB1.out hr hSr hb2 (Nat.le_refl _) (Nat.le_refl _)); clear hr hSr hb2)
      | (go_at_call 19; refine H1.out.mono ?_; rintro e w1 ⟨rfl, ⟨Sd, hd, hSd⟩, hb1⟩; have HD1 := Lib.hid hd; have HS1 := Lib.hid hSd; have HB1 := Lib.hid hb1; clear hd hSd hb1))
    go_loopw [10, 45] (fun _ x wr => ∃ k : Nat, k ≤ n ∧ x = .int .i64 k ∧ Pair w wr w.heap.size w1.heap.size k) (fun _ x _ => n - (intOf x).toNat)
    case atStart => exact ⟨0, Nat.zero_le _, rfl, HP2.out⟩
    case round =>
      obtain ⟨k, hk, rfl, hM⟩ := hrel
      by_cases hlt : k < n
      · have tk : decide ((k : Int) < (n : Int)) = true := by simp; omega
        obtain ⟨gb, go, rfl, hrow⟩ := HA.out.2 k hlt
        have hbel := hM
        obtain ⟨_, _, _, hbel⟩ := hbel
        obtain ⟨kd, i, t, y, sh, kv, ks, q0, q1, q2, q3, q4, q5, ht, hkk⟩ := hrow.below hbel
        obtain ⟨Ak, nk, ck, rfl⟩ : ∃ A n c, kv = .slice A n c := by
          obtain ⟨A, c, rfl, _⟩ := hkk [] (fun _ h => by simp at h)
          exact ⟨_, _, _, rfl⟩
        have HM := Lib.hid hM
        have HK := Lib.hid hkk
        clear hM hkk hbel hrow
        have HKA : Hid (∀ o, KeepAt (wr.alloc o) [] (.slice Ak nk ck) ks) := fun o => KeepAt.keeps (S := []) (T := []) (HK.out [] (fun _ h => by simp at h)) ((Keeps.refl _ wr).alloc o)
        have HKS : Hid (∀ o (S : List Nat), (∀ q ∈ S, w.heap.size ≤ q) → KeepAt (wr.alloc o) S (.slice Ak nk ck) ks) := fun o S hS => KeepAt.keeps (S := []) (HK.out S hS) ((Keeps.refl _ wr).alloc o)
        have HMA : Hid (∀ o, Pair w (wr.alloc o) w.heap.size w1.heap.size k) := fun o => HM.out.below ((Below.refl _ wr).alloc (Nat.le_refl _) o)
        clear HKA
        go_wp2_with (first
          | (go_at_call 22; refine (HP3.out.alike (by omega)).mono ?_; rintro e w4 ⟨rfl, hp4⟩; have HP4 := Lib.hid hp4; clear hp4)
          | (go_at_call 21; refine ((HMA.out _).acted (by omega) ht (HKS.out _)).mono ?_; rintro e w3 ⟨rfl, hp3⟩; have HP3 := Lib.hid hp3; clear hp3))
        go_roundw
        case rel => exact ⟨k + 1, by omega, by go_num, HP4.out⟩
        case measure => simp [intOf]; omega
      · obtain rfl : k = n := by omega
        have tk : decide ((k : Int) < (k : Int)) = false := by simp
        have HM := Lib.hid hM
        clear hM
        go_wp2_with (first
          | (go_at_call 8; refine (awake_calls _).mono ?_; rintro e w4 ⟨rfl, hb4⟩; have HB4 := Lib.hid hb4; clear hb4)
          | (go_at_call 22; refine (HM.out.alike (by omega)).mono ?_; rintro e w3 ⟨rfl, hp3⟩; have HP3 := Lib.hid hp3; clear hp3))
        go_ret
        obtain ⟨_, _, _, hb⟩ := HP3.out.below HB4.out
        exact ⟨rfl, hb⟩

end Go.Proofs.Ytbgiklkpinflaaa

namespace Go.Proofs.Ytbgiklkpinflaaa
open Go.RowKit
theorem disks_calls (w : World) (bl : Int) (A : Option Addr) (n c : Nat) (hA : ActArg w A n) :
    Calls Try.prog 5 #[.int .i64 bl, .slice A n c] w fun e w' => e = .returned (.bool true) ∧ Below w.heap.size w w' := by
  by_cases h : bl < 4 ∨ 1024 < bl
  · exact disks_bad w bl h A n c
  · obtain ⟨m, rfl⟩ : ∃ m : Nat, bl = m := ⟨bl.toNat, by omega⟩
    exact disks_good w m (by omega) (by omega) A n c hA
end Go.Proofs.Ytbgiklkpinflaaa
