/- The keys of a map, in their order. -/
import Derived.Test.YtbgiklkpinflaaaGreatIter
namespace Go.Proofs.YtbgiklkpinflaaaGreat
open Go.RowKit Go.Shelf Go.Maps Go.Sort

theorem before_iff : ∀ a b : List UInt8, bytesBefore a b = true ↔ a < b
  | [], [] => by simp [bytesBefore]
  | [], _ :: _ => by simp [bytesBefore]
  | _ :: _, [] => by simp [bytesBefore]
  | a :: r, b :: s => by
    rw [List.cons_lt_cons_iff]
    simp only [bytesBefore, Bool.or_eq_true, decide_eq_true_eq, Bool.and_eq_true, beq_iff_eq, before_iff r s]

section
variable {α β : Type}
/-- The keys stand in rising order. -/
def Srt (m : List (List UInt8 × α)) : Prop := m.Pairwise fun p q => p.1 < q.1
theorem Srt.map_ {m : List (List UInt8 × α)} (h : Srt m) (g : α → β) : Srt (mmap g m) := by
  unfold Srt mmap at *
  rw [List.pairwise_map]
  exact h
theorem Srt.del_ {m : List (List UInt8 × α)} (h : Srt m) (k : List UInt8) : Srt (mdel m k) := List.Pairwise.filter _ h
theorem Srt.insert_ {x : List UInt8 × α} : ∀ {m : List (List UInt8 × α)}, Srt m → (∀ y ∈ m, y.1 ≠ x.1) → Srt (minsert x m)
  | [], _, _ => by simp [Srt, Go.Proofs.YtbgiklkpinflaaaGreat.minsert]
  | y :: r, h, hx => by
    unfold Srt at h ⊢
    rw [List.pairwise_cons] at h
    unfold Go.Proofs.YtbgiklkpinflaaaGreat.minsert
    split
    · rename_i hb
      have hlt := (before_iff _ _).1 hb
      rw [List.pairwise_cons]
      refine ⟨fun z hz => ?_, List.pairwise_cons.2 h⟩
      rcases List.mem_cons.1 hz with rfl | hz
      · exact hlt
      · exact List.lt_trans hlt (h.1 z hz)
    · rename_i hb
      have hnl : ¬ x.1 < y.1 := fun h => hb ((before_iff _ _).2 h)
      have hyx : y.1 < x.1 := by
        have hle : y.1 ≤ x.1 := List.not_lt.1 hnl
        refine Classical.byContradiction fun hn => hx y (by simp) (List.le_antisymm hle (List.not_lt.1 hn))
      rw [List.pairwise_cons]
      refine ⟨fun z hz => ?_, Srt.insert_ h.2 (fun z hz => hx z (by simp [hz]))⟩
      rcases minsert_mem.1 hz with rfl | hz
      · exact hyx
      · exact h.1 z hz
theorem Srt.put_ {m : List (List UInt8 × α)} (h : Srt m) (k : List UInt8) (a : α) : Srt (mput m k a) :=
  Srt.insert_ (h.del_ k) fun _ hy => (mdel_mem hy).2
theorem Srt.nil : Srt ([] : List (List UInt8 × α)) := List.Pairwise.nil
theorem Srt.keys {m : List (List UInt8 × α)} (h : Srt m) : (m.map (·.1)).Pairwise (· < ·) := by
  rw [List.pairwise_map]
  exact h
end

theorem sorted_keys {ks ss : List (List UInt8)} (h : ks.Pairwise (· < ·)) (hp : ss.Perm ks) : ss.mergeSort (fun x y => decide (x ≤ y)) = ks := by
  refine List.Perm.eq_of_pairwise (le := fun a b => a ≤ b) (fun a b _ _ h1 h2 => List.le_antisymm h1 h2) ?_ ?_ ((List.mergeSort_perm ss _).trans hp)
  · have := List.pairwise_mergeSort (le := fun x y : List UInt8 => decide (x ≤ y)) (fun a b c h1 h2 => by
      simp only [decide_eq_true_eq] at *
      exact List.le_trans h1 h2) (fun a b => by
      simp only [Bool.or_eq_true, decide_eq_true_eq]
      exact List.le_total a b) ss
    exact this.imp (fun h => by simpa using h)
  · exact h.imp (fun hlt => List.not_lt.1 (fun h2 => List.lt_irrefl _ (List.lt_trans hlt h2)))

theorem strKeys_map (M : List (List UInt8 × Value)) : strKeys (mapD M) = M.map (·.1) := by
  show (M.map _).map _ = _
  rw [List.map_map]
  rfl

/-- The slice v holds the strings ks. -/
def StrsAt (w : World) (base : Nat) (v : Value) (ks : List (List UInt8)) : Prop := w.ownsRow base 9 1 v ks.length (ks.map encStr)

def KeysPost (M : List (List UInt8 × Value)) (w : World) (e : Ending) (w' : World) : Prop := ∃ v, e = .returned v ∧ StrsAt w' w.heap.size v (M.map (·.1)) ∧ Below w.heap.size w w'

theorem keys_places (w : World) (b : Nat) (M : List (List UInt8 × Value)) (hM : MapAt w b M) (hs : Srt M) (hl : M.length ≤ 1000000) :
    Calls Tryz.prog 72 #[.func (.func 126) #[] #[.pointer (some ⟨w.heap.size, 0, none⟩)]] (w.alloc (.cells #[.map (some b)] 131)) (KeysPost M w) := by
  refine (callsIn_wide.1 (Tryz.slices_Sorted_keys_72_88 b M.length (mapD M) rv w hM (by rw [mapD_size]; unfold maxLen; omega) (by rw [mapD_size]; omega))).mono ?_
  rintro e w' ⟨v, ss, rfl, hp, hown, _, hb⟩
  rw [strKeys_map] at hp
  rw [sorted_keys hs.keys hp] at hown
  have hlen := hp.length_eq
  rw [hlen] at hown
  exact ⟨v, rfl, ownsRow_base (by simp) hown, ((Below.refl _ w).alloc (Nat.le_refl _) _).trans (hb.mono (by simp))⟩

theorem keys_notes (w : World) (b : Nat) (M : List (List UInt8 × Value)) (hM : MapAt w b M) (hs : Srt M) (hl : M.length ≤ 1000000) :
    Calls Tryz.prog 72 #[.func (.func 116) #[] #[.pointer (some ⟨w.heap.size, 0, none⟩)]] (w.alloc (.cells #[.map (some b)] 97)) (KeysPost M w) := by
  refine (callsIn_wide.1 (Tryz.slices_Sorted_keys_72_73 b M.length (mapD M) rv w hM (by rw [mapD_size]; unfold maxLen; omega) (by rw [mapD_size]; omega))).mono ?_
  rintro e w' ⟨v, ss, rfl, hp, hown, _, hb⟩
  rw [strKeys_map] at hp
  rw [sorted_keys hs.keys hp] at hown
  have hlen := hp.length_eq
  rw [hlen] at hown
  exact ⟨v, rfl, ownsRow_base (by simp) hown, ((Below.refl _ w).alloc (Nat.le_refl _) _).trans (hb.mono (by simp))⟩

end Go.Proofs.YtbgiklkpinflaaaGreat
