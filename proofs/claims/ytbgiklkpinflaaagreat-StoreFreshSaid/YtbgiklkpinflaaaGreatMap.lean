/- Maps with string keys: as lists, and in memory. -/
import Derived.Test.YtbgiklkpinflaaaGreatSto1
import Derived.StringKeys
namespace Go.Proofs.YtbgiklkpinflaaaGreat
open Go.RowKit Go.Shelf Go.Maps

/-! ### plain -/
section
variable {α β : Type}
def minsert (x : List UInt8 × α) : List (List UInt8 × α) → List (List UInt8 × α)
  | [] => [x]
  | y :: r => if bytesBefore x.1 y.1 then x :: y :: r else y :: minsert x r
def mget (m : List (List UInt8 × α)) (k : List UInt8) : Option α := (m.find? fun p => p.1 == k).map (·.2)
def mdel (m : List (List UInt8 × α)) (k : List UInt8) : List (List UInt8 × α) := m.filter fun p => !(p.1 == k)
def mput (m : List (List UInt8 × α)) (k : List UInt8) (a : α) : List (List UInt8 × α) := minsert (k, a) (mdel m k)
def mmap (g : α → β) (m : List (List UInt8 × α)) : List (List UInt8 × β) := m.map fun p => (p.1, g p.2)
theorem mmap_length (g : α → β) (m : List (List UInt8 × α)) : (mmap g m).length = m.length := by simp [mmap]
theorem mmap_minsert (g : α → β) (x : List UInt8 × α) : ∀ m, mmap g (minsert x m) = minsert (x.1, g x.2) (mmap g m)
  | [] => rfl
  | y :: r => by
    show mmap g (if bytesBefore x.1 y.1 then x :: y :: r else y :: minsert x r) = if bytesBefore x.1 y.1 then _ else _
    split
    · rfl
    · show (y.1, g y.2) :: mmap g (minsert x r) = _
      rw [mmap_minsert g x r]
      rfl
theorem mmap_mdel (g : α → β) (m : List (List UInt8 × α)) (k : List UInt8) : mmap g (mdel m k) = mdel (mmap g m) k := by
  simp only [mmap, mdel, List.filter_map]
  rfl
theorem mmap_mput (g : α → β) (m : List (List UInt8 × α)) (k : List UInt8) (a : α) : mmap g (mput m k a) = mput (mmap g m) k (g a) := by
  rw [mput, mmap_minsert, mmap_mdel, mput]
theorem mget_mmap (g : α → β) (m : List (List UInt8 × α)) (k : List UInt8) : mget (mmap g m) k = (mget m k).map g := by
  simp only [mget, mmap, List.find?_map]
  cases h : m.find? ((fun p : List UInt8 × β => p.1 == k) ∘ fun p : List UInt8 × α => (p.1, g p.2)) with
  | none =>
    have : m.find? (fun p => p.1 == k) = none := h
    simp [this]
  | some p =>
    have : m.find? (fun p => p.1 == k) = some p := h
    simp [this]
theorem mget_mem {m : List (List UInt8 × α)} {k : List UInt8} {a : α} (h : mget m k = some a) : (k, a) ∈ m := by
  unfold mget at h
  cases hf : m.find? (fun p => p.1 == k) with
  | none => rw [hf] at h; cases h
  | some p =>
    rw [hf] at h
    have h1 := List.find?_some hf
    have h2 := List.mem_of_find?_eq_some hf
    have e1 : p.1 = k := by simpa using h1
    have e2 : p.2 = a := by simpa using h
    rw [← e1, ← e2]
    exact h2
theorem minsert_mem {x y : List UInt8 × α} : ∀ {m}, y ∈ minsert x m ↔ y = x ∨ y ∈ m
  | [] => by simp [minsert]
  | z :: r => by
    unfold minsert
    split
    · simp
    · simp only [List.mem_cons, minsert_mem]
      constructor
      · rintro (h | h | h)
        · exact .inr (.inl h)
        · exact .inl h
        · exact .inr (.inr h)
      · rintro (h | h | h)
        · exact .inr (.inl h)
        · exact .inl h
        · exact .inr (.inr h)
theorem mput_mem {m : List (List UInt8 × α)} {k : List UInt8} {a : α} {y : List UInt8 × α} (h : y ∈ mput m k a) : y = (k, a) ∨ (y ∈ m ∧ y.1 ≠ k) := by
  rcases minsert_mem.1 h with h | h
  · exact .inl h
  · have := List.mem_filter.1 h
    exact .inr ⟨this.1, by simpa using this.2⟩
theorem mdel_mem {m : List (List UInt8 × α)} {k : List UInt8} {y : List UInt8 × α} (h : y ∈ mdel m k) : y ∈ m ∧ y.1 ≠ k := by
  have := List.mem_filter.1 h
  exact ⟨this.1, by simpa using this.2⟩
end

/-! ### in memory -/
/-- An element is what it is. -/
def rv (v : Value) : Option (DataW Value × List MemPlace) := some (.held v, [])
def mapD (m : List (List UInt8 × Value)) : DataW Value := .map (m.map fun p => (.string p.1, .held p.2))
/-- Block b holds the map m. -/
def MapAt (w : World) (b : Nat) (m : List (List UInt8 × Value)) : Prop := w.ownsMap Tryz.prog 9 rv b m.length (mapD m)
theorem Tryz.lawStr : Keyed Tryz.prog 9 := string_keyed Tryz.underlying9

theorem mapD_insert (x : List UInt8 × Value) : ∀ m : List (List UInt8 × Value), DataW.insert ((.string x.1, .held x.2) : Lit × DataW Value) (m.map fun p => (.string p.1, .held p.2)) = (minsert x m).map fun p => (.string p.1, .held p.2)
  | [] => rfl
  | y :: r => by
    show (if bytesBefore x.1 y.1 then _ else _) = (if bytesBefore x.1 y.1 then x :: y :: r else y :: minsert x r).map _
    split
    · rfl
    · show _ :: DataW.insert _ (r.map _) = _ :: (minsert x r).map _
      rw [mapD_insert x r]
theorem mapD_del (m : List (List UInt8 × Value)) (k : List UInt8) : (mapD m).del (.string k) = mapD (mdel m k) := by
  show DataW.map _ = DataW.map _
  rw [mdel, List.filter_map]
  rfl
theorem mapD_put (m : List (List UInt8 × Value)) (k : List UInt8) (v : Value) : (mapD m).put (.string k) (.held v) = mapD (mput m k v) := by
  show DataW.map (DataW.insert _ _) = DataW.map _
  rw [mput, ← mapD_insert, mdel, List.filter_map]
  rfl
theorem mapD_find (m : List (List UInt8 × Value)) (k : List UInt8) : (m.map fun p => ((.string p.1, .held p.2) : Lit × DataW Value)).find? (fun p => p.1.sameKey (.string k)) = (m.find? fun p => p.1 == k).map fun p => (.string p.1, .held p.2) := by
  rw [List.find?_map]
  rfl
theorem mapD_at (m : List (List UInt8 × Value)) (k : List UInt8) (z : Value) : (mapD m).atKey (.string k) (.held z) = .held ((mget m k).getD z) := by
  simp only [mapD, DataW.atKey]
  rw [mapD_find, mget]
  cases m.find? fun p => p.1 == k <;> rfl
theorem mapD_has (m : List (List UInt8 × Value)) (k : List UInt8) : Maps.has (mapD m) (.string k) = (mget m k).isSome := by
  show (m.map fun p => ((.string p.1, .held p.2) : Lit × DataW Value)).any (fun p => p.1.sameKey (.string k)) = _
  rw [List.any_map, mget, Option.isSome_map, ← List.isSome_find?]
  rfl
theorem mapD_size (m : List (List UInt8 × Value)) : Maps.size (mapD m) = m.length := by
  show (m.map _).length = _
  rw [List.length_map]
theorem MapAt.fit {w : World} {b n : Nat} {m : List (List UInt8 × Value)} (h : w.ownsMap Tryz.prog 9 rv b n (mapD m)) : MapAt w b m := by
  obtain ⟨es, clock, hb, F, hs, hD⟩ := h
  refine ⟨es, clock, hb, F, ?_, hD⟩
  have := congrArg Maps.size hD
  rw [mapD_size] at this
  rw [this]
  simp [Maps.size, length_sorted]
theorem MapAt.keeps {F : Nat → Prop} {w w' : World} {b : Nat} {m : List (List UInt8 × Value)} (h : MapAt w b m) (k : Keeps F w w') (hF : ¬ F b) : MapAt w' b m := by
  have hlt := World.ownsMap.lt h
  obtain ⟨es, clock, hb, r⟩ := h
  exact ⟨es, clock, (k.block b hlt hF).trans hb, r⟩
theorem MapAt.below {w w' : World} {b : Nat} {m : List (List UInt8 × Value)} (h : MapAt w b m) (hb : Below w.heap.size w w') : MapAt w' b m := h.keeps (F := fun _ => False) (Keeps.of_below hb) id
theorem MapAt.lt {w : World} {b : Nat} {m : List (List UInt8 × Value)} (h : MapAt w b m) : b < w.heap.size := World.ownsMap.lt h
theorem MapAt.not_blk {w : World} {b : Nat} {m : List (List UInt8 × Value)} (h : MapAt w b m) {t : TypeId} {cs : Array Value} (hb : Blk w b t cs) : False := by
  obtain ⟨es, clock, h1, _⟩ := h
  unfold Blk at hb
  rw [hb] at h1
  cases h1
theorem MapAt.made (w : World) : MapAt (w.alloc (.map #[] 0)) w.heap.size [] := World.ownsMap_made _ _ _ _

/-! ### at the operation -/
section
variable {ops : Array Oper} {rest : List Oper} {o : Oper} {a : Act} {Q : Exit → Act → World → Prop}
theorem key_of (s : ByteArray) (h : s.size ≤ maxLen) : keyOf Tryz.prog 9 (.string s) = some (.string s.data.toList) := Go.WideMaps.keyOf_string_mk Tryz.underlying9 h

/-- v, ok := m[k]. -/
theorem wpList_get_ok (w : World) (hg : o.guard = none) (m x : Operand) (t : TypeId) (hop : o.op = Op.lookup t m x true) (e : TypeId) (ht : Tryz.prog.underlying t = some (.map 9 e)) {z : Value} (hz : (zeroValue e).run Tryz.prog w = .ok z w)
    (b : Nat) (M : List (List UInt8 × Value)) (hm : a.eval m = .map (some b)) (hM : MapAt w b M) (s : ByteArray) (hx : a.eval x = .string s) (hs : s.size ≤ maxLen)
    (hK : wpList Tryz.prog ops Q rest (a.put o.dst (.tuple #[(mget M s.data.toList).getD z, .bool (mget M s.data.toList).isSome])) w) : wpList Tryz.prog ops Q (o :: rest) a w := by
  refine wpList_lookup_own_ok (H := Value) w hg m x t hop 9 e Tryz.lawStr ht rv hz (.held z) [] rfl b M.length (mapD M) hm hM _ _ hx (key_of s hs) fun v ps hv => ?_
  rw [mapD_at] at hv
  have : v = (mget M s.data.toList).getD z := by
    have := congrArg (fun r : Option (DataW Value × List MemPlace) => r.map (·.1)) hv
    simpa [rv] using this
  rw [this, mapD_has]
  exact hK

/-- m[k]. -/
theorem wpList_get (w : World) (hg : o.guard = none) (m x : Operand) (t : TypeId) (hop : o.op = Op.lookup t m x false) (e : TypeId) (ht : Tryz.prog.underlying t = some (.map 9 e)) {z : Value} (hz : (zeroValue e).run Tryz.prog w = .ok z w)
    (b : Nat) (M : List (List UInt8 × Value)) (hm : a.eval m = .map (some b)) (hM : MapAt w b M) (s : ByteArray) (hx : a.eval x = .string s) (hs : s.size ≤ maxLen)
    (hK : wpList Tryz.prog ops Q rest (a.put o.dst ((mget M s.data.toList).getD z)) w) : wpList Tryz.prog ops Q (o :: rest) a w := by
  refine wpList_plain hg fun K' hK' => ?_
  obtain ⟨v, ps, hrun, hv⟩ := World.ownsMap.lookup hM Tryz.lawStr ht hz (zd := .held z) (zp := []) rfl (key_of s hs)
  rw [mapD_at] at hv
  have : v = (mget M s.data.toList).getD z := by
    have := congrArg (fun r : Option (DataW Value × List MemPlace) => r.map (·.1)) hv
    simpa [rv] using this
  rw [this] at hrun
  unfold Oper.wp
  simp [execOp, hop, hm, hx, hrun, Result.andThen]
  exact hK' _ _ hK

/-- m[k], the key being there. -/
theorem wpList_get_some (w : World) (hg : o.guard = none) (m x : Operand) (t : TypeId) (hop : o.op = Op.lookup t m x false) (e : TypeId) (ht : Tryz.prog.underlying t = some (.map 9 e)) {z : Value} (hz : (zeroValue e).run Tryz.prog w = .ok z w)
    (b : Nat) (M : List (List UInt8 × Value)) (hm : a.eval m = .map (some b)) (hM : MapAt w b M) (s : ByteArray) (hx : a.eval x = .string s) (hs : s.size ≤ maxLen) (v : Value) (hv : mget M s.data.toList = some v)
    (hK : wpList Tryz.prog ops Q rest (a.put o.dst v) w) : wpList Tryz.prog ops Q (o :: rest) a w := by
  refine wpList_get w hg m x t hop e ht hz b M hm hM s hx hs ?_
  rw [hv]
  exact hK
theorem wpList_get_ok_some (w : World) (hg : o.guard = none) (m x : Operand) (t : TypeId) (hop : o.op = Op.lookup t m x true) (e : TypeId) (ht : Tryz.prog.underlying t = some (.map 9 e)) {z : Value} (hz : (zeroValue e).run Tryz.prog w = .ok z w)
    (b : Nat) (M : List (List UInt8 × Value)) (hm : a.eval m = .map (some b)) (hM : MapAt w b M) (s : ByteArray) (hx : a.eval x = .string s) (hs : s.size ≤ maxLen) (v : Value) (hv : mget M s.data.toList = some v)
    (hK : wpList Tryz.prog ops Q rest (a.put o.dst (.tuple #[v, .bool true])) w) : wpList Tryz.prog ops Q (o :: rest) a w := by
  refine wpList_get_ok w hg m x t hop e ht hz b M hm hM s hx hs ?_
  rw [hv]
  exact hK
theorem wpList_get_ok_none (w : World) (hg : o.guard = none) (m x : Operand) (t : TypeId) (hop : o.op = Op.lookup t m x true) (e : TypeId) (ht : Tryz.prog.underlying t = some (.map 9 e)) {z : Value} (hz : (zeroValue e).run Tryz.prog w = .ok z w)
    (b : Nat) (M : List (List UInt8 × Value)) (hm : a.eval m = .map (some b)) (hM : MapAt w b M) (s : ByteArray) (hx : a.eval x = .string s) (hs : s.size ≤ maxLen) (hv : mget M s.data.toList = none)
    (hK : wpList Tryz.prog ops Q rest (a.put o.dst (.tuple #[z, .bool false])) w) : wpList Tryz.prog ops Q (o :: rest) a w := by
  refine wpList_get_ok w hg m x t hop e ht hz b M hm hM s hx hs ?_
  rw [hv]
  exact hK

/-- m[k] = v. -/
theorem wpList_set (w : World) (hg : o.guard = none) (m x y : Operand) (t : TypeId) (hop : o.op = Op.mapUpdate t m x y) (e : TypeId) (ht : Tryz.prog.underlying t = some (.map 9 e))
    (b : Nat) (M : List (List UInt8 × Value)) (hm : a.eval m = .map (some b)) (hM : MapAt w b M) (hn : M.length < maxLen) (s : ByteArray) (v : Value) (hx : a.eval x = .string s) (hy : a.eval y = v) (hs : s.size ≤ maxLen)
    (hK : ∀ w', MapAt w' b (mput M s.data.toList v) → w.grownBy w' (some b) → wpList Tryz.prog ops Q rest (a.put o.dst undef) w') : wpList Tryz.prog ops Q (o :: rest) a w := by
  refine wpList_mapUpdate_own (H := Value) w hg m x y t hop 9 e Tryz.lawStr ht rv b M.length (mapD M) hm hM hn _ _ _ hx hy (key_of s hs) (.held v) [] rfl fun w' h1 h2 => ?_
  rw [mapD_put] at h1
  exact hK w' (MapAt.fit h1) h2

/-- delete(m, k). -/
theorem wpList_del (w : World) (hg : o.guard = none) (m x : Operand) (t : TypeId) (hop : o.op = Op.call { callee := Callee.builtin Builtin.delete, args := #[m, x], argTypes := #[t, 9] }) (e : TypeId) (ht : Tryz.prog.underlying t = some (.map 9 e))
    (b : Nat) (M : List (List UInt8 × Value)) (hm : a.eval m = .map (some b)) (hM : MapAt w b M) (s : ByteArray) (hx : a.eval x = .string s) (hs : s.size ≤ maxLen)
    (hK : ∀ w', MapAt w' b (mdel M s.data.toList) → w.grownBy w' (some b) → wpList Tryz.prog ops Q rest (a.put o.dst (.tuple #[])) w') : wpList Tryz.prog ops Q (o :: rest) a w := by
  refine wpList_delete_own (H := Value) w hg m x t 9 hop e Tryz.lawStr ht rv b M.length (mapD M) hm hM _ _ hx (key_of s hs) fun w' h1 h2 => ?_
  rw [mapD_del] at h1
  exact hK w' (MapAt.fit h1) h2.grown

/-- len(m). -/
theorem wpList_mlen (w : World) (hg : o.guard = none) (m : Operand) (t : TypeId) (hop : o.op = Op.call { callee := Callee.builtin Builtin.len, args := #[m], argTypes := #[t] }) (e : TypeId) (ht : Tryz.prog.underlying t = some (.map 9 e))
    (b : Nat) (M : List (List UInt8 × Value)) (hm : a.eval m = .map (some b)) (hM : MapAt w b M)
    (hK : wpList Tryz.prog ops Q rest (a.put o.dst (.int .i64 (M.length : Int))) w) : wpList Tryz.prog ops Q (o :: rest) a w := by
  refine wpList_len_own (H := Value) w hg m t hop 9 e ht rv b M.length (mapD M) hm hM ?_
  rw [mapD_size]
  exact hK
end

end Go.Proofs.YtbgiklkpinflaaaGreat
