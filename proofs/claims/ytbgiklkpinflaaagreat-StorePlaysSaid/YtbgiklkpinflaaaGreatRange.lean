/- Ranging over a map. -/
import Derived.Test.YtbgiklkpinflaaaGreatHas
import Derived.Maps.RangeWalk
import Derived.ChangeKeys
namespace Go.Proofs.YtbgiklkpinflaaaGreat
open Go.RowKit Go.Shelf Go.Maps

/-- Iterator r goes over the map m in block b; rem is still to come. -/
def RangeAt (w : World) (b r : Nat) (m rem : List (List UInt8 × Value)) : Prop :=
  ∃ left cnt, w.ranges Tryz.prog 9 rv b r m.length (mapD m) left cnt ∧ rem = m.filter fun p => left (.string p.1)

theorem RangeAt.keeps {F : Nat → Prop} {w w' : World} {b r : Nat} {m rem : List (List UInt8 × Value)} (h : RangeAt w b r m rem) (k : Keeps F w w') (hb : ¬ F b) (hr : ¬ F r) : RangeAt w' b r m rem ∧ w'.rangeLeft b r = w.rangeLeft b r := by
  obtain ⟨left, cnt, hh, hrem⟩ := h
  have hl := hh.left_eq
  obtain ⟨es, clock, since, seen, c0, h1, F1, h2, h3, h4, rest⟩ := hh
  have lt1 : b < w.heap.size := (Array.getElem?_eq_some_iff.1 h1).1
  have lt2 : r < w.heap.size := (Array.getElem?_eq_some_iff.1 h4).1
  have hh' : w'.ranges Tryz.prog 9 rv b r m.length (mapD m) left cnt := ⟨es, clock, since, seen, c0, (k.block b lt1 hb).trans h1, F1, h2, h3, (k.block r lt2 hr).trans h4, rest⟩
  exact ⟨⟨left, cnt, hh', hrem⟩, by rw [hh'.left_eq, hl]⟩
theorem RangeAt.map {w : World} {b r : Nat} {m rem : List (List UInt8 × Value)} (h : RangeAt w b r m rem) : MapAt w b m := by
  obtain ⟨left, cnt, ⟨es, clock, since, seen, c0, h1, F1, h2, h3, _⟩, _⟩ := h
  exact ⟨es, clock, h1, F1, h2, h3⟩

section
variable {α : Type}
theorem mdel_none {m : List (List UInt8 × α)} {k : List UInt8} (h : ∀ p ∈ m, p.1 ≠ k) : mdel m k = m := List.filter_eq_self.2 fun p hp => by simpa using h p hp
/-- An entry of a map stands in it once. -/
theorem srt_perm : ∀ {m : List (List UInt8 × α)}, Srt m → ∀ {k : List UInt8} {v : α}, (k, v) ∈ m → m.Perm ((k, v) :: mdel m k)
  | [], _, _, _, h => by simp at h
  | y :: r, hs, k, v, h => by
    unfold Srt at hs
    rw [List.pairwise_cons] at hs
    rcases List.mem_cons.1 h with rfl | h'
    · have hn : ∀ p ∈ r, p.1 ≠ k := fun p hp e => by
        have := hs.1 p hp
        rw [e] at this
        exact List.lt_irrefl _ this
      have e : mdel ((k, v) :: r) k = r := by
        show List.filter _ _ = _
        rw [List.filter_cons_of_neg (by simp)]
        exact mdel_none hn
      rw [e]
    · have hne : y.1 ≠ k := fun e => by
        have := hs.1 _ h'
        rw [e] at this
        exact List.lt_irrefl _ this
      have e : mdel (y :: r) k = y :: mdel r k := by
        show List.filter _ _ = _
        rw [List.filter_cons_of_pos (by simpa using hne)]
        rfl
      rw [e]
      exact ((srt_perm hs.2 h').cons y).trans (List.Perm.swap _ _ _)
theorem Srt.filter_ {m : List (List UInt8 × α)} (h : Srt m) (f : List UInt8 × α → Bool) : Srt (m.filter f) := List.Pairwise.filter _ h
end

theorem mget_isSome {α : Type} {m : List (List UInt8 × α)} {p : List UInt8 × α} (h : p ∈ m) : (mget m p.1).isSome = true := by
  unfold mget
  rw [Option.isSome_map, List.isSome_find?]
  exact List.any_eq_true.2 ⟨p, h, by simp⟩

theorem key_inv {key : Value} {kl : Lit} (h : keyOf Tryz.prog 9 key = some kl) : ∃ s : ByteArray, key = .string s ∧ s.size ≤ maxLen ∧ kl = .string s.data.toList := by
  rw [keyOf_string Tryz.underlying9] at h
  unfold mapKey at h
  rw [Tryz.underlying9] at h
  cases key with
  | string s =>
    simp only at h
    split at h
    · rename_i hs
      exact ⟨s, rfl, hs, by cases h; rfl⟩
    · cases h
  | _ => simp at h

section
variable {ops : Array Oper} {rest : List Oper} {o : Oper} {a : Act} {Q : Exit → Act → World → Prop}
theorem wpList_mrange (w : World) (hg : o.guard = none) (m : Operand) (t : TypeId) (hop : o.op = Op.range t m) (e : TypeId) (ht : Tryz.prog.underlying t = some (.map 9 e)) (b : Nat) (M : List (List UInt8 × Value)) (hm : a.eval m = .map (some b)) (hM : MapAt w b M)
    (hK : ∀ w', RangeAt w' b w.heap.size M M → w.grownBy w' none → w'.heap.size = w.heap.size + 1 → wpList Tryz.prog ops Q rest (a.put o.dst (.pointer (some ⟨w.heap.size, 0, none⟩))) w') : wpList Tryz.prog ops Q (o :: rest) a w := by
  refine wpList_range_own (H := Value) w hg m t hop 9 e Tryz.lawStr ht rv b M.length (mapD M) hm hM fun w' h1 h2 h3 => hK w' ⟨_, _, h1, ?_⟩ h2 h3
  rw [List.filter_eq_self.2]
  intro p hp
  rw [mapD_has]
  exact mget_isSome hp

set_option maxRecDepth 100000 in
theorem wpList_mnext (w : World) (hg : o.guard = none) (it : Operand) (hop : o.op = Op.next it false) (b r : Nat) (M rem : List (List UInt8 × Value)) (hit : a.eval it = .pointer (some ⟨r, 0, none⟩)) (h : RangeAt w b r M rem)
    (hDone : rem = [] → wpList Tryz.prog ops Q rest (a.put o.dst (.tuple #[.bool false])) w)
    (hMore : ∀ (key : ByteArray) (v : Value) (w' : World), key.size ≤ maxLen → mget M key.data.toList = some v → (key.data.toList, v) ∈ rem → RangeAt w' b r M (mdel rem key.data.toList) → w'.rangeLeft b r < w.rangeLeft b r →
      w.grownBy w' (some r) → w'.heap.size = w.heap.size → (Instr.entry (.pointer (some ⟨r, 0, none⟩))).run Tryz.prog w' = .ok (.tuple #[.string key, v]) w' → wpList Tryz.prog ops Q rest (a.put o.dst (.tuple #[.bool true, .string key, v])) w') :
    wpList Tryz.prog ops Q (o :: rest) a w := by
  obtain ⟨left, cnt, hr, rfl⟩ := h
  refine wpList_next_ranges (H := Value) w hg it hop 9 Tryz.lawStr rv Value.string id ?_ ?_ b r M.length (mapD M) left cnt hit hr ?_ ?_
  · intro key kl hk
    obtain ⟨s, hs, _⟩ := key_inv hk
    exact ⟨s, hs⟩
  · intro v y _
    exact ⟨v, rfl⟩
  · intro _ hl
    exact hDone (List.filter_eq_nil_iff.2 fun p _ => by rw [hl]; simp)
  · intro x c kl y w' cnt' hkey hlk hv hat hrg hlt hgr hsz hen
    obtain ⟨s, hs, hsz2, rfl⟩ := key_inv hkey
    injection hs with hs
    subst hs
    have hy : y.1 = .held c := by
      have : some ((.held c, []) : DataW Value × List MemPlace) = some y := hv
      injection this with this
      rw [← this]
    have hget : mget M x.data.toList = some c := by
      have h1 := hat (.held (.bool true))
      have h2 := hat (.held (.bool false))
      rw [mapD_at, hy] at h1 h2
      injection h1 with h1
      injection h2 with h2
      cases hm : mget M x.data.toList with
      | some v =>
        rw [hm] at h1
        have h3 : v = c := h1
        rw [h3]
      | none =>
        rw [hm] at h1 h2
        have h3 : Value.bool true = c := h1
        have h4 : Value.bool false = c := h2
        rw [← h4] at h3
        cases h3
    refine hMore x c w' hsz2 hget (List.mem_filter.2 ⟨mget_mem hget, hlk⟩) ⟨_, _, hrg, ?_⟩ ?_ hgr hsz hen
    · rw [mdel, List.filter_filter]
      congr 1
      funext p
      rw [Bool.and_comm]
      rfl
    · rw [hrg.left_eq, hr.left_eq]
      exact hlt
end

end Go.Proofs.YtbgiklkpinflaaaGreat
