/- StoreLast, the plain law: the last note of a key counts. -/
import Derived.Test.YtbgiklkpinflaaaGreatJoB
namespace Go.Proofs.YtbgiklkpinflaaaGreat
open Go.RowKit Go.Shelf Go.Maps

abbrev KV := List (List UInt8 × List UInt8)
def goodKey (k : ByteArray) : Bool := decide (0 < k.size ∧ k.size ≤ 64)
def noteStep (m : KV) (o : ByteArray × List UInt8) : KV := if goodKey o.1 then mput m (kb o.1) o.2 else m
/-- The last of a list's notes for a key. -/
def lastOf : List (ByteArray × List UInt8) → List UInt8 → Option (List UInt8)
  | [], _ => none
  | o :: r, k => (lastOf r k).or (if goodKey o.1 ∧ kb o.1 = k then some o.2 else none)
theorem mget_noteStep (m : KV) (o : ByteArray × List UInt8) (k : List UInt8) : mget (noteStep m o) k = if goodKey o.1 ∧ kb o.1 = k then some o.2 else mget m k := by
  unfold noteStep
  by_cases h : goodKey o.1 = true
  · rw [if_pos h, mget_mput]
    by_cases e : kb o.1 = k
    · rw [if_pos e, if_pos ⟨h, e⟩]
    · rw [if_neg e, if_neg fun c => e c.2]
  · rw [if_neg h, if_neg fun c => h c.1]
theorem srt_noteStep {m : KV} (h : Srt m) (o : ByteArray × List UInt8) : Srt (noteStep m o) := by
  unfold noteStep
  split
  · exact h.put_ _ _
  · exact h
theorem srt_notes : ∀ (l : List (ByteArray × List UInt8)) {m : KV}, Srt m → Srt (l.foldl noteStep m)
  | [], _, h => h
  | o :: r, _, h => srt_notes r (srt_noteStep h o)
theorem mget_notes : ∀ (l : List (ByteArray × List UInt8)) (m : KV) (k : List UInt8), mget (l.foldl noteStep m) k = (lastOf l k).or (mget m k)
  | [], _, _ => rfl
  | o :: r, m, k => by
    show mget (r.foldl noteStep (noteStep m o)) k = ((lastOf r k).or _).or _
    rw [mget_notes r, mget_noteStep]
    cases lastOf r k with
    | some v => rfl
    | none =>
      simp only [Option.none_or]
      by_cases h : goodKey o.1 ∧ kb o.1 = k
      · rw [if_pos h, if_pos h]
        rfl
      · rw [if_neg h, if_neg h]
        rfl
theorem lastOf_mem : ∀ {l : List (ByteArray × List UInt8)} {o : ByteArray × List UInt8}, o ∈ l → goodKey o.1 = true → (lastOf l (kb o.1)).isSome = true
  | x :: r, o, h, hg => by
    rcases List.mem_cons.1 h with rfl | h
    · show ((lastOf r (kb o.1)).or _).isSome = true
      rw [if_pos ⟨hg, rfl⟩]
      cases lastOf r (kb o.1) <;> rfl
    · have := lastOf_mem h hg
      show ((lastOf r (kb o.1)).or _).isSome = true
      cases h2 : lastOf r (kb o.1) with
      | some v => rfl
      | none => rw [h2] at this; cases this
theorem lastOf_none : ∀ {l : List (ByteArray × List UInt8)} {k : ByteArray}, (∀ o ∈ l, o.1 ≠ k) → lastOf l (kb k) = none
  | [], _, _ => rfl
  | x :: r, k, h => by
    show (lastOf r (kb k)).or _ = none
    rw [lastOf_none fun o ho => h o (List.mem_cons_of_mem _ ho), if_neg fun c => h x (by simp) (kb_inj c.2)]
    rfl
/-- Whether a later note, or the key itself, bars a note. -/
def known (o : ByteArray × List UInt8) (r : List (ByteArray × List UInt8)) : Bool := !goodKey o.1 || r.any fun x => decide (x.1 = o.1)
/-- The notes from behind. -/
def backNotes : List (ByteArray × List UInt8) → KV
  | [] => []
  | o :: r => if known o r then backNotes r else noteStep (backNotes r) o
theorem back_srt : ∀ l, Srt (backNotes l)
  | [] => Srt.nil
  | o :: r => by
    unfold backNotes
    split
    · exact back_srt r
    · exact srt_noteStep (back_srt r) o
theorem back_get : ∀ (l : List (ByteArray × List UInt8)) (k : List UInt8), mget (backNotes l) k = lastOf l k
  | [], _ => rfl
  | o :: r, k => by
    unfold backNotes
    show _ = (lastOf r k).or (if goodKey o.1 ∧ kb o.1 = k then some o.2 else none)
    by_cases hk : known o r = true
    · rw [if_pos hk, back_get r k]
      unfold known at hk
      rw [Bool.or_eq_true] at hk
      rcases hk with hk | hk
      · have : ¬ (goodKey o.1 = true ∧ kb o.1 = k) := fun c => by rw [c.1] at hk; cases hk
        rw [if_neg this]
        cases lastOf r k <;> rfl
      · by_cases c : goodKey o.1 = true ∧ kb o.1 = k
        · obtain ⟨x, hx, he⟩ := List.any_eq_true.1 hk
          have he : x.1 = o.1 := by simpa using he
          have := lastOf_mem hx (by rw [he]; exact c.1)
          rw [he, c.2] at this
          cases h2 : lastOf r k with
          | some v => rfl
          | none => rw [h2] at this; cases this
        · rw [if_neg c]
          cases lastOf r k <;> rfl
    · rw [if_neg hk, mget_noteStep, back_get r k]
      have hk2 : known o r = false := by simpa using hk
      unfold known at hk2
      rw [Bool.or_eq_false_iff] at hk2
      by_cases c : goodKey o.1 = true ∧ kb o.1 = k
      · rw [if_pos c]
        have h3 := hk2.2
        rw [List.any_eq_false] at h3
        have := lastOf_none (l := r) (k := o.1) fun x hx e => h3 x hx (by simpa using e)
        rw [c.2] at this
        rw [this, if_pos c]
        rfl
      · rw [if_neg c, if_neg c]
        cases lastOf r k <;> rfl
/-- Forwards and from behind: the same. -/
theorem notes_back (l : List (ByteArray × List UInt8)) : l.foldl noteStep [] = backNotes l :=
  Srt.ext (srt_notes l Srt.nil) (back_srt l) fun k => by
    rw [mget_notes, back_get]
    show (lastOf l k).or (mget [] k) = _
    cases lastOf l k <;> rfl

end Go.Proofs.YtbgiklkpinflaaaGreat

/-! ### what a bench of StoreLast has noted -/
namespace Go.Proofs.YtbgiklkpinflaaaGreat
open Go.RowKit Go.Shelf Go.Maps

/-- A note, if the key is one. -/
def Joint.put1 (Y : Joint) (nx : Nx) (k : ByteArray) (l : List UInt8) : Joint := if goodKey k then Y.put nx k l else Y
structure Note60 (m : Nat) (Y : Joint) (nx : Nx) (M : KV) : Prop where
  ok : Ok m Y
  armed : Y.disk.armed = 0
  n : Y.n = 60
  pins : Y.pins = []
  ents : Y.now.ents = []
  trans : Y.trans = some nx
  all : ∀ x ∈ nx, x.2 = none
  eq : noted nx = M
theorem Note60.begin {m : Nat} {Y : Joint} (h : Ok m Y) (h0 : Y.disk.armed = 0) (hn : Y.n = 60) (hp : Y.pins = []) (he : Y.now.ents = []) : Note60 m Y.begin_ [] [] := by
  refine ⟨h.begin_, h0, hn, hp, he, ?_, fun x hx => by simp at hx, rfl⟩
  show some (Y.now.ents.map fun x => (x.1, some x.2)) = some []
  rw [he]
  rfl
theorem Note60.put {m : Nat} {Y : Joint} {nx : Nx} {M : KV} (h : Note60 m Y nx M) (hm : m + 1 ≤ 100) (k : ByteArray) (l : List UInt8) (hl : l.length ≤ 65536) : ∃ nx', Note60 (m + 1) (Y.put1 nx k l) nx' (noteStep M (k, l)) := by
  unfold Joint.put1 noteStep
  by_cases hg : goodKey k = true
  · rw [if_pos hg]
    have hg2 : 0 < k.size ∧ k.size ≤ 64 := by simpa [goodKey] using hg
    refine ⟨withJ ⟨k, l, Y.last + 1⟩ nx, h.ok.put h.trans hg2 hl hm, h.armed, h.n, h.pins, h.ents, rfl, fun x hx => ?_, ?_⟩
    · rcases mem_withJ hx with rfl | hx
      · rfl
      · exact h.all x hx
    · rw [noted_put (h.ok.trans nx h.trans).ok.srt, h.eq, if_pos hg]
  · rw [if_neg hg]
    refine ⟨nx, h.ok.mono (Nat.le_succ m) hm, h.armed, h.n, h.pins, h.ents, h.trans, h.all, ?_⟩
    rw [if_neg hg]
    exact h.eq
theorem noted_all : ∀ {nx : Nx}, (∀ x ∈ nx, x.2 = none) → noted nx = nx.map fun x => (kb x.1.key, x.1.val)
  | [], _ => rfl
  | x :: r, h => by
    have h1 := h x (by simp)
    have ih := noted_all (nx := r) fun y hy => h y (by simp [hy])
    unfold noted at ih ⊢
    rw [List.filterMap_cons, h1, ih]
    rfl
abbrev kvOf (e : Ent) : List UInt8 × List UInt8 := (kb e.key, e.val)
/-- What depends on key and value alone. -/
theorem map_kv {α : Type} {f : Ent → α} (hf : ∀ a b : Ent, a.key = b.key → a.val = b.val → f a = f b) : ∀ {E E' : List Ent}, E.map kvOf = E'.map kvOf → E.map f = E'.map f
  | [], [], _ => rfl
  | [], _ :: _, h => by simp at h
  | _ :: _, [], h => by simp at h
  | a :: r, b :: r', h => by
    rw [List.map_cons, List.map_cons] at h
    injection h with h1 h2
    injection h1 with h3 h4
    rw [List.map_cons, List.map_cons, hf a b (kb_inj h3) h4, map_kv hf h2]
section
variable {m k : Nat} {Y Z : Joint} {nx nz : Nx} {M : KV}
theorem Note60.next (h : Note60 m Y nx M) : Y.ref.next.ents.map kvOf = M := by
  have e : Y.ref.next.ents = nxEnts nx := by
    show (nextR Y.now Y.trans).ents = _
    rw [h.trans]
    rfl
  rw [e, ← h.eq, noted_all h.all]
  unfold nxEnts
  rw [List.map_map]
  rfl
theorem Note60.now (h : Note60 m Y nx M) : Y.ref.now.ents = [] := by
  show Y.now.ents.map (·.1) = []
  rw [h.ents]
  rfl
theorem Note60.need (h : Note60 m Y nx M) (h' : Note60 k Z nz M) : Y.ref.need = Z.ref.need := by
  have e : Y.ref.next.ents.map kvOf = Z.ref.next.ents.map kvOf := h.next.trans h'.next.symm
  have hn : ∀ {m : Nat} {Y : Joint} {nx : Nx}, Note60 m Y nx M → ∀ a, needE Y.ref.now a = blocksFor a.val.length := fun h a => by
    unfold needE
    rw [h.now]
    rfl
  have hn1 : ∀ {m : Nat} {Y : Joint} {nx : Nx}, Note60 m Y nx M → needE Y.ref.now = fun a => blocksFor a.val.length := fun h => funext (hn h)
  unfold RSto.need
  rw [hn1 h, hn1 h']
  have e1 : entsLen Y.ref.next.ents = entsLen Z.ref.next.ents := by
    unfold entsLen
    rw [map_kv (f := entLen) (fun a b h1 h2 => by unfold entLen; rw [h1, h2]) e]
  have e2 : Y.ref.next.ents.map (fun a => blocksFor a.val.length) = Z.ref.next.ents.map (fun a => blocksFor a.val.length) := map_kv (fun a b _ h2 => by rw [h2]) e
  rw [e2]
  unfold indexOf
  rw [e1]
theorem Note60.free (h : Note60 m Y nx M) : Y.ref.free = 57 := by
  have e1 : Y.ref.pins = [] := by
    show pinsR Y.pins = []
    rw [h.pins]
    rfl
  have e2 : Y.ref.blocks = 60 := h.n
  unfold RSto.free
  rw [e1, e2]
  show ((60 : Nat) : Int) - ((usedOf [Y.ref.now]).1 : Nat) = 57
  have e3 : usedOf [Y.ref.now] = (Y.ref.now.ents).foldl usedE (2 + indexOf Y.ref.now.ents, []) := rfl
  rw [e3, h.now]
  rfl
end

end Go.Proofs.YtbgiklkpinflaaaGreat
