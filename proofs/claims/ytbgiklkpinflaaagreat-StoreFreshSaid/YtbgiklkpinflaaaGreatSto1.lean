/- The store's parts in memory; spread. -/
import Derived.Test.YtbgiklkpinflaaaGreatBlock
import Derived.Maps.OwnSet
import Derived.Maps.Ext
import Derived.StillTailTactics
namespace Go.Proofs.YtbgiklkpinflaaaGreat
open Go.RowKit Go.Shelf

/-! ### the disk: a row of calls -/
def Small (D : Dsk) (k : Nat) : Prop := D.life + k ≤ 4611686018427387904 ∧ D.pending.length + k ≤ 1000000000
theorem Small.mono {D : Dsk} {k j : Nat} (h : Small D k) (hj : j ≤ k) : Small D j := ⟨by have := h.1; omega, by have := h.2; omega⟩
theorem Small.life {D : Dsk} {k : Nat} (h : Small D k) : D.life ≤ 4611686018427387904 := by have := h.1; omega
theorem Small.pen {D : Dsk} {k : Nat} (h : Small D k) : D.pending.length ≤ 1000000000 := by have := h.2; omega
theorem Dsk.write_small {D : Dsk} {i : Int} {l : List UInt8} {k : Nat} (h : Small D (k + 1)) : Small (D.write i l).2 k := by
  obtain ⟨h1, h2⟩ := h
  have a := D.fails_life
  have b := D.fails_pending
  unfold Dsk.write
  split
  · exact ⟨by simp only; omega, by simp only; omega⟩
  · split
    · exact ⟨by simp only; omega, by simp only; omega⟩
    · split
      · exact ⟨by simp only; omega, by simp only; rw [b]; omega⟩
      · exact ⟨by simp only; omega, by simp only [List.length_append, List.length_singleton]; rw [b]; omega⟩
theorem Dsk.sync_small {D : Dsk} {k : Nat} (h : Small D (k + 1)) : Small D.sync.2 k := by
  obtain ⟨h1, h2⟩ := h
  have a := D.fails_life
  have b := D.fails_pending
  unfold Dsk.sync
  split
  · exact ⟨by simp only; omega, by simp only; omega⟩
  · split
    · exact ⟨by simp only; omega, by simp only; rw [b]; omega⟩
    · exact ⟨by simp only; omega, by simp only [List.length_nil]; omega⟩
theorem After.trans {P : Nat → Prop} {w w1 w2 : World} {b : Nat} {E : Dsk} {S S1 : List Nat} (hS : ∀ k ∈ S1, k ∈ S ∨ w.heap.size ≤ k) (k1 : Keeps (· ∈ S) w w1) (h2 : After P w1 w2 b E S1) : After P w w2 b E S := by
  obtain ⟨S2, hD, hS2, k2⟩ := h2
  refine ⟨S2, hD, fun k hk => ?_, k1.trans k2 fun i hi hg => ?_⟩
  · rcases hS2 k hk with h | h
    · exact hS k h
    · exact .inr (Nat.le_trans k1.size h)
  · rcases hS i hg with h | h
    · exact h
    · omega
theorem DiskAt.keeps {P F : Nat → Prop} {w w' : World} {b : Nat} {D : Dsk} {S : List Nat} (h : DiskAt P w b D S) (k : Keeps F w w') (hF : ∀ g, g ∈ S → ¬ F g) (hU : ∀ g cs, F g → P g → Blk w g 5 cs → False) : DiskAt P w' b D S := by
  obtain ⟨ho, g1, cur1, pv, ps, rfl, hr⟩ := h
  exact ⟨ho, g1, cur1, pv, ps, rfl, hr.keeps k hF hU⟩
theorem DiskAt.below {P : Nat → Prop} {w w' : World} {b : Nat} {D : Dsk} {S : List Nat} (h : DiskAt P w b D S) (hb : Below w.heap.size w w') : DiskAt P w' b D S :=
  h.keeps (F := fun _ => False) (Keeps.of_below hb) (fun _ _ => id) (fun _ _ h => h.elim)
theorem DiskAt.lt {P : Nat → Prop} {w : World} {b : Nat} {D : Dsk} {S : List Nat} (h : DiskAt P w b D S) : ∀ k ∈ S, ∃ t cs, Blk w k t cs ∧ (t = 94 ∨ t = 89 ∨ t = 138) := by
  obtain ⟨ho, g1, cur1, pv, ps, rfl, hr⟩ := h
  intro k hk
  simp only [List.mem_cons, Option.mem_toList] at hk
  rcases hk with rfl | rfl | hk
  · exact ⟨_, _, hr.hb, .inl rfl⟩
  · exact ⟨_, _, hr.hg, .inr (.inl rfl)⟩
  · rcases hr.own.2 with ⟨hv, _⟩ | ⟨g, cap, cur, hv, _, hg, _⟩
    · rw [hv] at hk
      simp [Value.ownBlock] at hk
    · rw [hv] at hk
      simp [Value.ownBlock] at hk
      subst hk
      exact ⟨_, _, hg, .inr (.inr rfl)⟩
theorem After.blk {P : Nat → Prop} {w w' : World} {b : Nat} {E D : Dsk} {S : List Nat} (h : After P w w' b E S) (hD : DiskAt P w b D S) {g : Nat} {t : TypeId} {cs : Array Value} (hb : Blk w g t cs) (h1 : t ≠ 94) (h2 : t ≠ 89) (h3 : t ≠ 138) : Blk w' g t cs := by
  obtain ⟨_, _, _, k⟩ := h
  refine hb.keeps k fun hg => ?_
  obtain ⟨t', cs', hk, ht⟩ := hD.lt g hg
  have := (hb.det hk).2
  subst this
  rcases ht with h | h | h
  · exact h1 h
  · exact h2 h
  · exact h3 h

/-- Writes, one behind the other, up to the first that fails. -/
def writes : List (Nat × List UInt8) → Dsk → Int × Dsk
  | [], D => (0, D)
  | p :: r, D => if (D.write p.1 p.2).1 = 0 then writes r (D.write p.1 p.2).2 else D.write p.1 p.2

/-! ### numbers -/
def nv (n : Nat) : Value := .int .i64 (n : Int)
/-- The slice v holds the numbers l. -/
def NumsAt (w : World) (v : Value) (l : List Nat) : Prop :=
  ∃ A cap, v = .slice A l.length cap ∧ l.length ≤ cap ∧ cap ≤ maxLen ∧ (0 < cap → ∃ g cur, A = some ⟨g, 0, none⟩ ∧ Blk w g 3 cur ∧ cur.size = cap ∧ cur.toList.take l.length = l.map nv)
theorem NumsAt.keeps {F : Nat → Prop} {w w' : World} {v : Value} {l : List Nat} (h : NumsAt w v l) (k : Keeps F w w') (hF : ∀ g cs, F g → Blk w g 3 cs → False) : NumsAt w' v l := by
  obtain ⟨A, cap, hv, h1, h2, h3⟩ := h
  exact ⟨A, cap, hv, h1, h2, fun h0 => let ⟨g, cur, e1, e2, e3, e4⟩ := h3 h0; ⟨g, cur, e1, e2.keeps k (fun hg => hF g cur hg e2), e3, e4⟩⟩
theorem NumsAt.below {w w' : World} {v : Value} {l : List Nat} (h : NumsAt w v l) (hb : Below w.heap.size w w') : NumsAt w' v l := h.keeps (F := fun _ => False) (Keeps.of_below hb) (fun _ _ h => h.elim)
theorem NumsAt.cell {w : World} {A : Option Addr} {n c : Nat} {l : List Nat} (h : NumsAt w (.slice A n c) l) (hl : 0 < l.length) : ∃ g, A = some ⟨g, 0, none⟩ ∧ ∀ j (hj : j < l.length), w.cell? ⟨g, j, none⟩ = some (.int .i64 (l[j] : Int)) := by
  obtain ⟨A', cap, hv, h1, h2, h3⟩ := h
  cases hv
  obtain ⟨g, cur, rfl, hb, hs, ht⟩ := h3 (by omega)
  refine ⟨g, rfl, fun j hj => ?_⟩
  have := take_cells hb ht j (nv l[j]) (by simp [hj])
  rw [Nat.zero_add] at this
  exact this
theorem NumsAt.nil (w : World) : NumsAt w (.slice none 0 0) [] := ⟨none, 0, rfl, Nat.le_refl _, Nat.zero_le _, fun h => absurd h (Nat.lt_irrefl _)⟩
theorem NumsAt.of_own {w : World} {base n : Nat} {v : Value} {l : List Nat} (h : w.ownsRow base 3 1 v n (l.map nv)) : NumsAt w v l := by
  obtain ⟨h1, h2⟩ := h
  have hl : l.length = n := by simpa using h1
  subst hl
  rcases h2 with ⟨hv, h0⟩ | ⟨g, cap, cur, rfl, hb, hg, hnc, hcm, hcs, ht⟩
  · have : l = [] := List.eq_nil_of_length_eq_zero (by omega)
    subst this
    rw [hv]
    exact NumsAt.nil w
  · exact ⟨_, cap, rfl, hnc, hcm, fun _ => ⟨g, cur, rfl, hg, by omega, by simpa using ht⟩⟩

end Go.Proofs.YtbgiklkpinflaaaGreat
