/- Write and Read at every disk; Sync. -/
import Derived.Test.YtbgiklkpinflaaaRead2
namespace Go.Proofs.Ytbgiklkpinflaaa
open Go.RowKit Go.Shelf

theorem Dsk.fails_pending (D : Dsk) : D.fails.2.pending = D.pending := by unfold Dsk.fails; split; rfl; split <;> rfl
theorem Dsk.fails_blocks (D : Dsk) : D.fails.2.blocks = D.blocks := by unfold Dsk.fails; split; rfl; split <;> rfl
theorem Dsk.fails_life (D : Dsk) : D.fails.2.life ≤ D.life + 1 := by unfold Dsk.fails; split; simp; split <;> simp
theorem Dsk.fails_down {D : Dsk} (h : D.fails.1 = false) : D.fails.2.down = D.down := by
  unfold Dsk.fails at h ⊢
  split
  · rfl
  · split
    · rename_i h1 h2
      rw [if_neg h1, if_pos h2] at h
      cases h
    · rfl

theorem After.refl {P : Nat → Prop} {w : World} {b : Nat} {D : Dsk} {S : List Nat} (h : DiskAt P w b D S) : After P w w b D S := ⟨S, h, fun _ hk => .inl hk, Keeps.refl _ _⟩

/-- The bytes that are handed to Write. -/
def Handed (w : World) (S : List Nat) (v : Value) (l : List UInt8) : Prop :=
  ∃ A c, v = .slice A l.length c ∧ (0 < l.length → ∃ g o, A = some ⟨g, o, none⟩ ∧ Cells w g o (l.map bv) ∧ g ∉ S)

theorem write_any {P : Nat → Prop} {b : Nat} {D : Dsk} {S : List Nat} (w : World) (h : DiskAt P w b D S) (hl : D.life ≤ 4611686018427387904) (hn : D.pending.length ≤ 1000000000) (i : Int) (v : Value) (l : List UInt8) (hv : Handed w S v l) :
    Calls Try.prog 37 #[.pointer (some ⟨b, 0, none⟩), .int .i64 i, v] w fun e w' => e = .returned (.int .i64 (D.write i l).1) ∧ After P w w' b (D.write i l).2 S := by
  obtain ⟨ho, g1, cur1, pv, ps, rfl, hr⟩ := h
  obtain ⟨A, c, rfl, hA⟩ := hv
  have hD : DiskAt P w b D (b :: g1 :: pv.ownBlock.toList) := ⟨ho, g1, cur1, pv, ps, rfl, hr⟩
  have h3 := hr.c3
  cases hd : D.down
  · rw [hd] at h3
    by_cases hbad : i < 0 ∨ (D.blocks.length : Int) ≤ i ∨ l.length ≠ 256
    · refine (write_bad b _ _ l.length c _ A i w hr.c0 ho.some_ ho.few h3 hbad).mono ?_
      rintro e w' ⟨rfl, rfl⟩
      have e1 : D.write i l = (51, D) := by unfold Dsk.write; rw [hd, if_neg (by simp), if_pos hbad]
      rw [e1]
      exact ⟨rfl, After.refl hD⟩
    · have hi0 : 0 ≤ i := by omega
      obtain ⟨n, rfl⟩ := Int.eq_ofNat_of_zero_le hi0
      have h256 : l.length = 256 := by omega
      obtain ⟨gb, ob, rfl, hc, hgb⟩ := hA (by omega)
      have := write_good w hr ho hl hd n (by omega) hn gb ob c l h256 hc (by intro e; exact hgb (by simp [e]))
      rw [h256]
      exact this
  · rw [hd] at h3
    refine (write_down b _ _ _ i _ w hr.c0 ho.some_ ho.few h3).mono ?_
    rintro e w' ⟨rfl, rfl⟩
    have e1 : D.write i l = (50, D) := by unfold Dsk.write; rw [if_pos hd]
    rw [e1]
    exact ⟨rfl, After.refl hD⟩

theorem read_any {P : Nat → Prop} {b : Nat} {D : Dsk} {S : List Nat} (w : World) (h : DiskAt P w b D S) (hn : D.pending.length ≤ 1000000000) (i : Int) :
    Calls Try.prog 44 #[.pointer (some ⟨b, 0, none⟩), .int .i64 i] w (ReadPost w (D.read i)) := by
  obtain ⟨ho, g1, cur1, pv, ps, rfl, hr⟩ := h
  have h3 := hr.c3
  cases hd : D.down
  · rw [hd] at h3
    by_cases hbad : i < 0 ∨ (D.blocks.length : Int) ≤ i
    · have e1 : D.read i = (51, []) := by unfold Dsk.read; rw [hd, if_neg (by simp), if_pos hbad]
      rw [e1]
      exact read_bad b _ _ _ i w hr.c0 ho.some_ ho.few h3 hbad
    · have hi0 : 0 ≤ i := by omega
      obtain ⟨n, rfl⟩ := Int.eq_ofNat_of_zero_le hi0
      have e1 : D.read (n : Int) = (0, D.see n) := by unfold Dsk.read; rw [hd, if_neg (by simp), if_neg hbad]; rfl
      rw [e1]
      exact read_good w hr ho hd n (by omega) hn
  · rw [hd] at h3
    have e1 : D.read i = (50, []) := by unfold Dsk.read; rw [if_pos hd]
    rw [e1]
    exact read_down b _ _ _ i w hr.c0 ho.some_ ho.few h3

/-- The writes take effect, one behind the other. -/
def settle (B : List (List UInt8)) (l : List (Nat × List UInt8)) : List (List UInt8) := l.foldl (fun B p => B.set p.1 p.2) B
theorem settle_snoc (B : List (List UInt8)) (l : List (Nat × List UInt8)) (p : Nat × List UInt8) : settle B (l ++ [p]) = (settle B l).set p.1 p.2 := by simp [settle]
theorem settle_length (l : List (Nat × List UInt8)) : ∀ B, (settle B l).length = B.length := by
  induction l with
  | nil => intro B; rfl
  | cons p l ih => intro B; show (settle (B.set p.1 p.2) l).length = _; rw [ih]; simp
theorem settle_take (B : List (List UInt8)) (l : List (Nat × List UInt8)) {k : Nat} {p : Nat × List UInt8} (h : l[k]? = some p) : settle B (l.take (k + 1)) = (settle B (l.take k)).set p.1 p.2 := by
  obtain ⟨hk, rfl⟩ := List.getElem?_eq_some_iff.1 h
  rw [List.take_succ_eq_append_getElem hk, settle_snoc]

def Dsk.sync (D : Dsk) : Int × Dsk :=
  if D.down then (50, D) else if D.fails.1 then (50, D.fails.2) else (0, { D.fails.2 with blocks := settle D.blocks D.pending, pending := [] })

theorem Keeps.set1 (w : World) (g i : Nat) (u : Value) : Keeps (· = g) w (w.setCell ⟨g, i, none⟩ u) := (Keeps.refl (· = g) w).setCell (p := ⟨g, i, none⟩) (fun _ => rfl) u

section
variable {P : Nat → Prop} {w : World} {b : Nat} {E : Dsk} {g1 : Nat} {cur : Array Value} {pv : Value} {ps : List (Nat × Value)}
/-- One block is replaced. -/
theorem DiskRep.setBlock (h : DiskRep P w b E g1 cur pv ps) (i : Nat) (l : List UInt8) (v : Value) (hB : BytesAt P w v l) (hi : i < E.blocks.length) : DiskRep P (w.setCell ⟨g1, i, none⟩ v) b { E with blocks := E.blocks.set i l } g1 (cur.setIfInBounds i v) pv ps := by
  have k1 : Keeps (· = g1) w (w.setCell ⟨g1, i, none⟩ v) := Keeps.set1 w g1 i v
  have hU : ∀ g cs, g = g1 → P g → Blk w g 5 cs → False := fun g cs hg _ hk => h.noBytes g cs (by simp [hg]) hk
  have hle := h.le
  refine ⟨?_, h.hg.set_ i v, by simpa using hle, ?_, ownsRow_keeps h.own k1 (fun g hg e => h.ne3 (by rw [hg, e])), h.pb, ?_, fun k hk => h.fresh k (Nat.le_trans k1.size hk)⟩
  · have := h.hb.keeps k1 h.ne1
    simpa using this
  · intro j l' hj
    simp only at hj
    rw [List.getElem?_set] at hj
    split at hj
    · rename_i e
      subst e
      cases hj
      refine ⟨v, ?_, hB.keeps k1 hU⟩
      rw [Array.getElem?_setIfInBounds_self_of_lt]
      omega
    · rename_i hne
      obtain ⟨v', hv', hB'⟩ := h.bl j l' hj
      exact ⟨v', by rw [Array.getElem?_setIfInBounds_ne hne]; exact hv', hB'.keeps k1 hU⟩
  · intro j p hj
    obtain ⟨v', hv', hB'⟩ := h.pl j p hj
    exact ⟨v', hv', hB'.keeps k1 hU⟩

/-- Nothing waits any more. -/
theorem DiskRep.drop (h : DiskRep P w b E g1 cur pv ps) : DiskRep P (w.setCell ⟨b, 1, none⟩ (.slice none 0 0)) b { E with pending := [] } g1 cur (.slice none 0 0) [] := by
  have k1 : Keeps (· = b) w (w.setCell ⟨b, 1, none⟩ (.slice none 0 0)) := Keeps.set1 w b 1 _
  have hU : ∀ g cs, g = b → P g → Blk w g 5 cs → False := fun g cs hg _ hk => h.noBytes g cs (by simp [hg]) hk
  refine ⟨h.hb.set_ 1 _, h.hg.keeps k1 (Ne.symm h.ne1), h.le, ?_, ⟨rfl, .inl ⟨rfl, rfl⟩⟩, rfl, fun j p hj => by simp at hj, fun k hk => h.fresh k (Nat.le_trans k1.size hk)⟩
  intro j l' hj
  obtain ⟨v', hv', hB'⟩ := h.bl j l' hj
  exact ⟨v', hv', hB'.keeps k1 hU⟩
end

end Go.Proofs.Ytbgiklkpinflaaa
