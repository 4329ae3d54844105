/- The store beside its specification, as data: one state with both sides; what is noted. The store beside its specification: what holds of it; the free blocks are counted alike. -/
import Derived.Test.YtbgiklkpinflaaaGreatRs1

namespace Go.Proofs.YtbgiklkpinflaaaGreat
open Go.RowKit Go.Shelf Go.Maps

def kb (k : ByteArray) : List UInt8 := k.data.toList
theorem kb_inj {a b : ByteArray} (h : kb a = kb b) : a = b := Go.WideShapes.bytes_inj h
theorem pw_all {α : Type} {R : α → α → Prop} (hs : ∀ a b, R a b → R b a) : ∀ {l : List α}, l.Pairwise R → ∀ {x y : α}, x ∈ l → y ∈ l → x ≠ y → R x y
  | [], _, _, _, hx, _, _ => by simp at hx
  | z :: l, h, x, y, hx, hy, hn => by
    rw [List.pairwise_cons] at h
    rcases List.mem_cons.1 hx with ex | hx
    · rcases List.mem_cons.1 hy with ey | hy
      · exact absurd (ex.trans ey.symm) hn
      · rw [ex]; exact h.1 y hy
    · rcases List.mem_cons.1 hy with ey | hy
      · rw [ey]; exact hs _ _ (h.1 x hx)
      · exact pw_all hs h.2 hx hy hn
theorem kb_length (k : ByteArray) : (kb k).length = k.size := Array.length_toList

section
variable {α β : Type}
theorem mget_cons (x : List UInt8 × α) (m : List (List UInt8 × α)) (k : List UInt8) : mget (x :: m) k = if x.1 = k then some x.2 else mget m k := by
  unfold mget
  by_cases h : x.1 = k
  · rw [List.find?_cons_of_pos (by simpa using h), if_pos h]; rfl
  · rw [List.find?_cons_of_neg (by simpa using h), if_neg h]
theorem mget_nil (k : List UInt8) : mget ([] : List (List UInt8 × α)) k = none := rfl
theorem mget_none_iff {m : List (List UInt8 × α)} {k : List UInt8} : mget m k = none ↔ ∀ x ∈ m, x.1 ≠ k := by
  unfold mget
  rw [Option.map_eq_none_iff, List.find?_eq_none]
  simp
theorem mget_some_of {m : List (List UInt8 × α)} (hs : Srt m) {x : List UInt8 × α} (hx : x ∈ m) : mget m x.1 = some x.2 := by
  obtain ⟨j, hj⟩ := List.getElem?_of_mem hx
  exact mget_at hs hj
theorem mget_mdel_self (m : List (List UInt8 × α)) (k : List UInt8) : mget (mdel m k) k = none :=
  mget_none_iff.2 fun _ hx => (mdel_mem hx).2
theorem mget_mdel (m : List (List UInt8 × α)) (k j : List UInt8) : mget (mdel m k) j = if k = j then none else mget m j := by
  by_cases h : k = j
  · subst h; rw [if_pos rfl]; exact mget_mdel_self m k
  · rw [if_neg h]; exact mget_mdel_ne h m
theorem mget_mput (m : List (List UInt8 × α)) (k j : List UInt8) (a : α) : mget (mput m k a) j = if k = j then some a else mget m j := by
  by_cases h : k = j
  · subst h; rw [if_pos rfl]; exact mget_mput_self m k a
  · rw [if_neg h]; exact mget_mput_ne a h m
/-- Two lists in rising order that answer alike are one. -/
theorem Srt.ext : ∀ {a b : List (List UInt8 × α)}, Srt a → Srt b → (∀ k, mget a k = mget b k) → a = b
  | [], [], _, _, _ => rfl
  | [], y :: b, _, _, h => by
    have := h y.1
    rw [mget_cons, if_pos rfl] at this
    cases this
  | x :: a, [], _, _, h => by
    have := h x.1
    rw [mget_cons, if_pos rfl] at this
    cases this
  | x :: a, y :: b, ha, hb, h => by
    unfold Srt at ha hb
    rw [List.pairwise_cons] at ha hb
    have hx := h x.1
    have hy := h y.1
    rw [mget_cons, if_pos rfl, mget_cons] at hx
    rw [mget_cons, mget_cons, if_pos rfl] at hy
    have hk : y.1 = x.1 := by
      refine Classical.byContradiction fun hn => ?_
      rw [if_neg hn] at hx
      rw [if_neg (Ne.symm hn)] at hy
      have h1 := hb.1 _ (mget_mem hx.symm)
      have h2 := ha.1 _ (mget_mem hy)
      exact List.lt_irrefl _ (List.lt_trans h1 h2)
    rw [if_pos hk] at hx
    injection hx with hv
    have ht : a = b := by
      refine Srt.ext ha.2 hb.2 fun k => ?_
      have := h k
      rw [mget_cons, mget_cons] at this
      by_cases e : x.1 = k
      · have n1 : mget a k = none := mget_none_iff.2 fun z hz e2 => by
          have := ha.1 z hz
          rw [e2, e] at this
          exact List.lt_irrefl _ this
        have n2 : mget b k = none := mget_none_iff.2 fun z hz e2 => by
          have := hb.1 z hz
          rw [e2, hk, e] at this
          exact List.lt_irrefl _ this
        rw [n1, n2]
      · rw [if_neg e, if_neg (by rw [hk]; exact e)] at this
        exact this
    rw [ht]
    congr 1
    exact Prod.ext hk.symm hv
end

/-- A state with both sides: entries with their places, and the index. -/
structure JSt where
  gen : Nat
  ents : List (Ent × Place)
  index : List Nat
def JSt.st (J : JSt) : St := ⟨J.gen, J.ents.map fun x => (kb x.1.key, x.2), J.index⟩
def JSt.rs (J : JSt) : RSt := ⟨J.gen, J.ents.map (·.1)⟩
/-- Entries in rising order of keys. -/
def SrtE (l : List Ent) : Prop := l.Pairwise fun a b => kb a.key < kb b.key
/-- The entries of a transaction: with the place that one has, or none where it is noted. -/
abbrev Nx := List (Ent × Option Place)
def nxEnts (nx : Nx) : List Ent := nx.map (·.1)
def noted (nx : Nx) : List (List UInt8 × List UInt8) := nx.filterMap fun x => if x.2.isNone then some (kb x.1.key, x.1.val) else none
def goneOf (J : JSt) (nx : Nx) : List (List UInt8 × Unit) := (J.ents.filter fun x => !(nx.any fun y => decide (y.1.key = x.1.key))).map fun x => (kb x.1.key, ())

/-- The specification's 'with'. -/
def withE (e : Ent) : List Ent → List Ent
  | [] => [e]
  | x :: r => if kb x.key < kb e.key then x :: withE e r else e :: (x :: r).filter fun y => decide (y.key ≠ e.key)
def withJ (e : Ent) : Nx → Nx
  | [] => [(e, none)]
  | x :: r => if kb x.1.key < kb e.key then x :: withJ e r else (e, none) :: (x :: r).filter fun y => decide (y.1.key ≠ e.key)
def withoutE (k : ByteArray) (l : List Ent) : List Ent := l.filter fun y => decide (y.key ≠ k)
def withoutJ (k : ByteArray) (l : Nx) : Nx := l.filter fun y => decide (y.1.key ≠ k)
theorem withJ_ents (e : Ent) : ∀ nx : Nx, nxEnts (withJ e nx) = withE e (nxEnts nx)
  | [] => rfl
  | x :: r => by
    unfold withJ
    show _ = withE e (x.1 :: nxEnts r)
    unfold withE
    split
    · show x.1 :: nxEnts (withJ e r) = _
      rw [withJ_ents e r]
    · show e :: nxEnts ((x :: r).filter fun y => decide (y.1.key ≠ e.key)) = _
      congr 1
      show ((x :: r).filter fun y => decide (y.1.key ≠ e.key)).map (·.1) = ((x :: r).map (·.1)).filter _
      rw [List.filter_map]
      rfl
theorem withoutJ_ents (k : ByteArray) (nx : Nx) : nxEnts (withoutJ k nx) = withoutE k (nxEnts nx) := by
  unfold nxEnts withoutJ withoutE
  rw [List.filter_map]
  rfl
theorem not_lt_gt {a b : List UInt8} (h : ¬ a < b) (hn : a ≠ b) : b < a := by
  have hle : b ≤ a := List.not_lt.1 h
  refine Classical.byContradiction fun h2 => hn (List.le_antisymm (List.not_lt.1 h2) hle)
theorem mem_withJ {e : Ent} {y : Ent × Option Place} : ∀ {nx : Nx}, y ∈ withJ e nx → y = (e, none) ∨ y ∈ nx
  | [], h => .inl (by simpa [withJ] using h)
  | x :: r, h => by
    unfold withJ at h
    split at h
    · rcases List.mem_cons.1 h with h | h
      · exact .inr (by simp [h])
      · rcases mem_withJ h with h | h
        · exact .inl h
        · exact .inr (by simp [h])
    · rcases List.mem_cons.1 h with h | h
      · exact .inl h
      · exact .inr (List.mem_filter.1 h).1
/-- Where the key is another one, nothing turns. -/
theorem mem_withJ_ne {e : Ent} {y : Ent × Option Place} (hk : y.1.key ≠ e.key) : ∀ {nx : Nx}, y ∈ nx → y ∈ withJ e nx
  | [], h => by simp at h
  | x :: r, h => by
    unfold withJ
    split
    · rcases List.mem_cons.1 h with h | h
      · simp [h]
      · exact List.mem_cons_of_mem _ (mem_withJ_ne hk h)
    · exact List.mem_cons_of_mem _ (List.mem_filter.2 ⟨h, by simpa using hk⟩)
theorem self_withJ (e : Ent) : ∀ nx : Nx, (e, none) ∈ withJ e nx
  | [] => by simp [withJ]
  | x :: r => by
    unfold withJ
    split
    · exact List.mem_cons_of_mem _ (self_withJ e r)
    · simp
/-- In rising order. -/
def SrtN (nx : Nx) : Prop := nx.Pairwise fun a b => kb a.1.key < kb b.1.key
theorem SrtN.with_ {e : Ent} : ∀ {nx : Nx}, SrtN nx → SrtN (withJ e nx) ∧ ∀ y ∈ withJ e nx, y.1.key = e.key → y = (e, none)
  | [], _ => ⟨List.pairwise_singleton _ _, fun y hy _ => by simpa [withJ] using hy⟩
  | x :: r, h => by
    unfold SrtN at h
    rw [List.pairwise_cons] at h
    unfold withJ
    split
    · rename_i hlt
      obtain ⟨h1, h2⟩ := SrtN.with_ (e := e) (nx := r) h.2
      refine ⟨?_, ?_⟩
      · unfold SrtN
        rw [List.pairwise_cons]
        refine ⟨fun y hy => ?_, h1⟩
        rcases mem_withJ hy with rfl | hy
        · exact hlt
        · exact h.1 y hy
      · intro y hy hk
        rcases List.mem_cons.1 hy with rfl | hy
        · rw [hk] at hlt
          exact absurd hlt (List.lt_irrefl _)
        · exact h2 y hy hk
    · rename_i hlt
      refine ⟨?_, ?_⟩
      · unfold SrtN
        rw [List.pairwise_cons]
        refine ⟨fun y hy => ?_, List.Pairwise.filter _ (List.pairwise_cons.2 h)⟩
        obtain ⟨hy, hk⟩ := List.mem_filter.1 hy
        have hk : y.1.key ≠ e.key := by simpa using hk
        have hxy : ¬ kb y.1.key < kb e.key := by
          rcases List.mem_cons.1 hy with rfl | hy
          · exact hlt
          · exact fun h2 => hlt (List.lt_trans (h.1 y hy) h2)
        exact not_lt_gt hxy fun h2 => hk (kb_inj h2)
      · intro y hy hk
        rcases List.mem_cons.1 hy with hy | hy
        · exact hy
        · have := (List.mem_filter.1 hy).2
          simp only [ne_eq, decide_not, Bool.not_eq_true', decide_eq_false_iff_not] at this
          exact absurd hk this
theorem SrtN.uniq {nx : Nx} (h : SrtN nx) {x y : Ent × Option Place} (hx : x ∈ nx) (hy : y ∈ nx) (hk : x.1.key = y.1.key) : x = y := by
  refine Classical.byContradiction fun hn => ?_
  have hp : nx.Pairwise fun a b => a.1.key ≠ b.1.key := List.Pairwise.imp (fun hab e => by rw [e] at hab; exact List.lt_irrefl _ hab) h
  exact pw_all (R := fun a b : Ent × Option Place => a.1.key ≠ b.1.key) (fun _ _ h e => h e.symm) hp hx hy hn hk

theorem mem_noted {nx : Nx} {q : List UInt8 × List UInt8} : q ∈ noted nx ↔ ∃ x ∈ nx, x.2 = none ∧ q = (kb x.1.key, x.1.val) := by
  unfold noted
  rw [List.mem_filterMap]
  constructor
  · rintro ⟨x, hx, h⟩
    split at h
    · rename_i h1
      injection h with h
      exact ⟨x, hx, by simpa using h1, h.symm⟩
    · cases h
  · rintro ⟨x, hx, h1, rfl⟩
    exact ⟨x, hx, by rw [h1]; rfl⟩
theorem SrtN.noted_ {nx : Nx} (h : SrtN nx) : Srt (noted nx) := by
  unfold Srt noted
  rw [List.pairwise_filterMap]
  refine List.Pairwise.imp (fun {a b} hab p hp q hq => ?_) h
  split at hp
  · split at hq
    · injection hp with hp
      injection hq with hq
      rw [← hp, ← hq]
      exact hab
    · cases hq
  · cases hp
theorem SrtN.without_ {nx : Nx} (h : SrtN nx) (k : ByteArray) : SrtN (withoutJ k nx) := List.Pairwise.filter _ h
theorem Srt.ext_mem {a b : List (List UInt8 × List UInt8)} (ha : Srt a) (hb : Srt b) (h : ∀ q, q ∈ a ↔ q ∈ b) : a = b := by
  refine Srt.ext ha hb fun k => ?_
  cases h1 : mget a k with
  | some v => exact (mget_some_of hb ((h _).1 (mget_mem h1))).symm
  | none =>
    refine (mget_none_iff.2 fun x hx e => ?_).symm
    exact mget_none_iff.1 h1 x ((h x).2 hx) e
/-- What is noted behind Put. -/
theorem noted_put {nx : Nx} (h : SrtN nx) (e : Ent) : noted (withJ e nx) = mput (noted nx) (kb e.key) e.val := by
  obtain ⟨h1, h2⟩ := h.with_ (e := e)
  refine Srt.ext_mem h1.noted_ (h.noted_.put_ _ _) fun q => ?_
  constructor
  · intro hq
    obtain ⟨x, hx, hn, rfl⟩ := mem_noted.1 hq
    by_cases hk : x.1.key = e.key
    · rw [h2 x hx hk]
      exact minsert_mem.2 (.inl rfl)
    · rcases mem_withJ hx with rfl | hx
      · exact absurd rfl hk
      · refine minsert_mem.2 (.inr (List.mem_filter.2 ⟨mem_noted.2 ⟨x, hx, hn, rfl⟩, ?_⟩))
        simpa using fun e2 => hk (kb_inj e2)
  · intro hq
    rcases mput_mem hq with rfl | ⟨hq, hne⟩
    · exact mem_noted.2 ⟨_, self_withJ e nx, rfl, rfl⟩
    · obtain ⟨x, hx, hn, rfl⟩ := mem_noted.1 hq
      exact mem_noted.2 ⟨x, mem_withJ_ne (fun e2 => hne (by rw [e2])) hx, hn, rfl⟩
theorem noted_del {nx : Nx} (k : ByteArray) : noted (withoutJ k nx) = mdel (noted nx) (kb k) := by
  unfold noted withoutJ mdel
  rw [List.filterMap_filter, List.filter_filterMap]
  congr 1
  funext x
  by_cases h : x.1.key = k
  · cases x.2 <;> simp [h, Option.filter]
  · have : kb x.1.key ≠ kb k := fun e => h (kb_inj e)
    cases x.2 <;> simp [h, this, Option.filter]
theorem any_key_withJ (e : Ent) (k : ByteArray) : ∀ nx : Nx, ((withJ e nx).any fun y => decide (y.1.key = k)) = (decide (e.key = k) || nx.any fun y => decide (y.1.key = k)) := by
  intro nx
  rw [Bool.eq_iff_iff]
  simp only [List.any_eq_true, Bool.or_eq_true, decide_eq_true_eq]
  constructor
  · rintro ⟨y, hy, hk⟩
    rcases mem_withJ hy with rfl | hy
    · exact .inl hk
    · exact .inr ⟨y, hy, hk⟩
  · rintro (hk | ⟨y, hy, hk⟩)
    · exact ⟨_, self_withJ e nx, hk⟩
    · by_cases h2 : y.1.key = e.key
      · exact ⟨_, self_withJ e nx, by rw [← h2]; exact hk⟩
      · exact ⟨y, mem_withJ_ne h2 hy, hk⟩
theorem goneOf_put (J : JSt) (nx : Nx) (e : Ent) : goneOf J (withJ e nx) = mdel (goneOf J nx) (kb e.key) := by
  unfold goneOf mdel
  rw [List.filter_map, List.filter_filter]
  congr 1
  refine List.filter_congr fun x _ => ?_
  rw [any_key_withJ]
  show _ = (!(kb x.1.key == kb e.key) && _)
  by_cases h : e.key = x.1.key
  · simp [h]
  · have : kb x.1.key ≠ kb e.key := fun e2 => h (kb_inj e2).symm
    simp [h, this]
theorem mem_goneOf {J : JSt} {nx : Nx} {q : List UInt8 × Unit} : q ∈ goneOf J nx ↔ ∃ x ∈ J.ents, (∀ y ∈ nx, y.1.key ≠ x.1.key) ∧ q = (kb x.1.key, ()) := by
  unfold goneOf
  rw [List.mem_map]
  constructor
  · rintro ⟨x, hx, rfl⟩
    obtain ⟨hx, hn⟩ := List.mem_filter.1 hx
    exact ⟨x, hx, by simpa using hn, rfl⟩
  · rintro ⟨x, hx, hn, rfl⟩
    exact ⟨x, List.mem_filter.2 ⟨hx, by simpa using hn⟩, rfl⟩
theorem Srt.ext_unit {a b : List (List UInt8 × Unit)} (ha : Srt a) (hb : Srt b) (h : ∀ q, q ∈ a ↔ q ∈ b) : a = b := by
  refine Srt.ext ha hb fun k => ?_
  cases h1 : mget a k with
  | some v => exact (mget_some_of hb ((h _).1 (mget_mem h1))).symm
  | none =>
    refine (mget_none_iff.2 fun x hx e => ?_).symm
    exact mget_none_iff.1 h1 x ((h x).2 hx) e
def SrtJ (J : JSt) : Prop := J.ents.Pairwise fun a b => kb a.1.key < kb b.1.key
theorem SrtJ.gone {J : JSt} (h : SrtJ J) (nx : Nx) : Srt (goneOf J nx) := by
  unfold goneOf Srt
  rw [List.pairwise_map]
  exact List.Pairwise.filter _ h
theorem SrtJ.places {J : JSt} (h : SrtJ J) : Srt J.st.places := by
  unfold JSt.st Srt
  rw [List.pairwise_map]
  exact h
theorem SrtJ.uniq {J : JSt} (h : SrtJ J) {x y : Ent × Place} (hx : x ∈ J.ents) (hy : y ∈ J.ents) (hk : x.1.key = y.1.key) : x = y := by
  refine Classical.byContradiction fun hn => ?_
  have hp : J.ents.Pairwise fun a b => a.1.key ≠ b.1.key := List.Pairwise.imp (fun hab e => by rw [e] at hab; exact List.lt_irrefl _ hab) h
  exact pw_all (R := fun a b : Ent × Place => a.1.key ≠ b.1.key) (fun _ _ h e => h e.symm) hp hx hy hn hk
/-- Does the state have the key? -/
def JSt.has (J : JSt) (k : ByteArray) : Bool := J.ents.any fun x => decide (x.1.key = k)
def nxHas (nx : Nx) (k : ByteArray) : Bool := nx.any fun x => decide (x.1.key = k)
theorem JSt.get_none {J : JSt} {k : ByteArray} (h : J.has k = false) : mget J.st.places (kb k) = none := by
  refine mget_none_iff.2 fun q hq e => ?_
  obtain ⟨x, hx, rfl⟩ := List.mem_map.1 hq
  unfold JSt.has at h
  rw [List.any_eq_false] at h
  exact absurd (kb_inj e) (by simpa using h x hx)
theorem SrtJ.get_some {J : JSt} (h : SrtJ J) {x : Ent × Place} (hx : x ∈ J.ents) : mget J.st.places (kb x.1.key) = some x.2 :=
  mget_some_of (x := (kb x.1.key, x.2)) h.places (List.mem_map.2 ⟨x, hx, rfl⟩)
theorem SrtJ.get_isSome {J : JSt} (h : SrtJ J) (k : ByteArray) : (mget J.st.places (kb k)).isSome = J.has k := by
  cases hb : J.has k with
  | false => rw [JSt.get_none hb]; rfl
  | true =>
    unfold JSt.has at hb
    obtain ⟨x, hx, hk⟩ := List.any_eq_true.1 hb
    have hk : x.1.key = k := by simpa using hk
    rw [← hk, h.get_some hx]
    rfl
theorem goneOf_del_in {J : JSt} (hJ : SrtJ J) (nx : Nx) {k : ByteArray} (hk : J.has k = true) : goneOf J (withoutJ k nx) = mput (goneOf J nx) (kb k) () := by
  refine Srt.ext_unit (hJ.gone _) ((hJ.gone _).put_ _ _) fun q => ?_
  constructor
  · intro hq
    obtain ⟨x, hx, hn, rfl⟩ := mem_goneOf.1 hq
    by_cases e : x.1.key = k
    · rw [e]
      exact minsert_mem.2 (.inl rfl)
    · refine minsert_mem.2 (.inr (List.mem_filter.2 ⟨mem_goneOf.2 ⟨x, hx, fun y hy e2 => ?_, rfl⟩, ?_⟩))
      · exact hn y (List.mem_filter.2 ⟨hy, by rw [e2]; simpa using e⟩) e2
      · simpa using fun e2 => e (kb_inj e2)
  · intro hq
    rcases mput_mem hq with rfl | ⟨hq, _⟩
    · unfold JSt.has at hk
      obtain ⟨x, hx, hxk⟩ := List.any_eq_true.1 hk
      have hxk : x.1.key = k := by simpa using hxk
      refine mem_goneOf.2 ⟨x, hx, fun y hy e2 => ?_, by rw [hxk]⟩
      have := (List.mem_filter.1 hy).2
      simp only [ne_eq, decide_not, Bool.not_eq_true', decide_eq_false_iff_not] at this
      exact this (by rw [e2, hxk])
    · obtain ⟨x, hx, hn, rfl⟩ := mem_goneOf.1 hq
      exact mem_goneOf.2 ⟨x, hx, fun y hy => hn y (List.mem_filter.1 hy).1, rfl⟩
theorem goneOf_del_out {J : JSt} (nx : Nx) {k : ByteArray} (hk : J.has k = false) : goneOf J (withoutJ k nx) = goneOf J nx := by
  unfold goneOf
  congr 1
  refine List.filter_congr fun x hx => ?_
  unfold JSt.has at hk
  rw [List.any_eq_false] at hk
  have hne : x.1.key ≠ k := by simpa using hk x hx
  congr 1
  unfold withoutJ
  rw [List.any_filter]
  congr 1
  funext y
  by_cases e : y.1.key = x.1.key
  · simp [e, hne]
  · simp [e]

/-- A transaction over the committed state: what has a place is of the state; what is noted is new. -/
structure NxOk (J : JSt) (nx : Nx) : Prop where
  srt : SrtN nx
  old : ∀ (x : Ent × Option Place) (p : Place), x ∈ nx → x.2 = some p → (x.1, p) ∈ J.ents
  keys : ∀ x ∈ nx, 0 < x.1.key.size ∧ x.1.key.size ≤ 64
  vals : ∀ x ∈ nx, x.1.val.length ≤ 65536
theorem noted_isSome {J : JSt} {nx : Nx} (h : NxOk J nx) (k : ByteArray) : (mget (noted nx) (kb k)).isSome = nx.any fun x => decide (x.1.key = k) && x.2.isNone := by
  rw [Bool.eq_iff_iff, Option.isSome_iff_exists, List.any_eq_true]
  constructor
  · rintro ⟨v, hv⟩
    obtain ⟨x, hx, hn, he⟩ := mem_noted.1 (mget_mem hv)
    injection he with h1 _
    exact ⟨x, hx, by simp [kb_inj h1, hn]⟩
  · rintro ⟨x, hx, he⟩
    simp only [Bool.and_eq_true, decide_eq_true_eq, Option.isNone_iff_eq_none] at he
    exact ⟨x.1.val, mget_some_of (x := (kb k, x.1.val)) h.srt.noted_ (mem_noted.2 ⟨x, hx, he.2, by rw [he.1]⟩)⟩
/-- The store's test of a key. -/
theorem has_key {J : JSt} {nx : Nx} (hJ : SrtJ J) (h : NxOk J nx) (k : ByteArray) :
    ((mget (noted nx) (kb k)).isSome || ((mget J.st.places (kb k)).isSome && !(mget (goneOf J nx) (kb k)).isSome)) = nxHas nx k := by
  rw [noted_isSome h, hJ.get_isSome]
  unfold nxHas
  rw [Bool.eq_iff_iff]
  simp only [Bool.or_eq_true, List.any_eq_true, Bool.and_eq_true, decide_eq_true_eq, Bool.not_eq_true']
  constructor
  · rintro (⟨x, hx, he, _⟩ | ⟨hj, hg⟩)
    · exact ⟨x, hx, he⟩
    · refine Classical.byContradiction fun hn => ?_
      unfold JSt.has at hj
      obtain ⟨x, hx, hxk⟩ := List.any_eq_true.1 hj
      have hxk : x.1.key = k := by simpa using hxk
      have : mget (goneOf J nx) (kb k) = some () := mget_some_of (x := (kb k, ())) (hJ.gone nx) (mem_goneOf.2 ⟨x, hx, fun y hy e => hn ⟨y, hy, by rw [e, hxk]⟩, by rw [hxk]⟩)
      rw [this] at hg
      cases hg
  · rintro ⟨x, hx, he⟩
    cases hp : x.2 with
    | none => exact .inl ⟨x, hx, he, by rw [hp]; rfl⟩
    | some p =>
      refine .inr ⟨?_, ?_⟩
      · unfold JSt.has
        exact List.any_eq_true.2 ⟨_, h.old x p hx hp, by simpa using he⟩
      · cases hg : mget (goneOf J nx) (kb k) with
        | none => rfl
        | some u =>
          obtain ⟨z, hz, hzn, hze⟩ := mem_goneOf.1 (mget_mem hg)
          injection hze with h1 _
          exact absurd he (by rw [kb_inj h1]; exact hzn x hx)
theorem NxOk.start {J : JSt} (hJ : SrtJ J) (hk : ∀ x ∈ J.ents, 0 < x.1.key.size ∧ x.1.key.size ≤ 64) (hv : ∀ x ∈ J.ents, x.1.val.length ≤ 65536) : NxOk J (J.ents.map fun x => (x.1, some x.2)) := by
  refine ⟨?_, ?_, ?_, ?_⟩
  · unfold SrtN
    rw [List.pairwise_map]
    exact hJ
  · intro x p hx hp
    obtain ⟨y, hy, rfl⟩ := List.mem_map.1 hx
    injection hp with hp
    rw [← hp]
    exact hy
  · intro x hx
    obtain ⟨y, hy, rfl⟩ := List.mem_map.1 hx
    exact hk y hy
  · intro x hx
    obtain ⟨y, hy, rfl⟩ := List.mem_map.1 hx
    exact hv y hy
theorem NxOk.put {J : JSt} {nx : Nx} (h : NxOk J nx) {e : Ent} (hk : 0 < e.key.size ∧ e.key.size ≤ 64) (hv : e.val.length ≤ 65536) : NxOk J (withJ e nx) := by
  refine ⟨h.srt.with_.1, fun x p hx hp => ?_, fun x hx => ?_, fun x hx => ?_⟩
  · rcases mem_withJ hx with rfl | hx
    · cases hp
    · exact h.old x p hx hp
  · rcases mem_withJ hx with rfl | hx
    · exact hk
    · exact h.keys x hx
  · rcases mem_withJ hx with rfl | hx
    · exact hv
    · exact h.vals x hx
theorem NxOk.del {J : JSt} {nx : Nx} (h : NxOk J nx) (k : ByteArray) : NxOk J (withoutJ k nx) :=
  ⟨h.srt.without_ k, fun x p hx hp => h.old x p (List.mem_filter.1 hx).1 hp, fun x hx => h.keys x (List.mem_filter.1 hx).1, fun x hx => h.vals x (List.mem_filter.1 hx).1⟩
theorem noted_start (J : JSt) : noted (J.ents.map fun x => (x.1, some x.2)) = [] := by
  unfold noted
  rw [List.filterMap_map]
  simp [Function.comp_def]
theorem goneOf_start (J : JSt) : goneOf J (J.ents.map fun x => (x.1, some x.2)) = [] := by
  unfold goneOf
  rw [List.map_eq_nil_iff, List.filter_eq_nil_iff]
  intro x hx
  simp only [Bool.not_eq_true', Bool.not_eq_false, List.any_map, List.any_eq_true, Function.comp_apply, decide_eq_true_eq]
  exact ⟨x, hx, rfl⟩

end Go.Proofs.YtbgiklkpinflaaaGreat

namespace Go.Proofs.YtbgiklkpinflaaaGreat
open Go.RowKit Go.Shelf Go.Maps

theorem blocksFor_need (n : Nat) : blocksFor n = need n := rfl
/-- The index's bytes, counted by the entries. -/
theorem written_ents : ∀ {l : List (Ent × Place)}, (∀ x ∈ l, x.2.blocks.length = need x.1.val.length) → (writtenOf (l.map fun x => (kb x.1.key, x.2))).length = entsLen (l.map (·.1))
  | [], _ => rfl
  | x :: l, h => by
    have e : writtenOf ((x :: l).map fun x => (kb x.1.key, x.2)) = placeBytes (kb x.1.key, x.2) ++ writtenOf (l.map fun x => (kb x.1.key, x.2)) := rfl
    have ih := written_ents (l := l) fun y hy => h y (by simp [hy])
    have e2 : entsLen ((x :: l).map (·.1)) = entLen x.1 + entsLen (l.map (·.1)) := by simp [entsLen]
    rw [e, List.length_append, placeBytes_length, ih, e2]
    unfold entLen
    rw [kb_length, h x (by simp), blocksFor_need]

/-- What a live state keeps to; own: to what a block belongs, an index (by its generation) or a value (by its number). -/
structure JOk (n : Nat) (D : Dsk) (own : Nat → Bool × Nat) (J : JSt) : Prop where
  gen : J.gen ≤ 1000000
  srt : SrtJ J
  few : J.ents.length ≤ 100
  keys : ∀ x ∈ J.ents, 0 < x.1.key.size ∧ x.1.key.size ≤ 64
  vals : ∀ x ∈ J.ents, x.1.val.length ≤ 65536
  holds : ∀ x ∈ J.ents, Holds D x.2 x.1.val
  blk : ∀ x ∈ J.ents, ∀ b ∈ x.2.blocks, 2 ≤ b ∧ b < n ∧ own b = (false, x.1.id)
  nod : ∀ x ∈ J.ents, x.2.blocks.Nodup
  ilen : J.index.length = indexOf (J.ents.map (·.1))
  iblk : ∀ b ∈ J.index, 2 ≤ b ∧ b < n ∧ own b = (true, J.gen)
  inod : J.index.Nodup
theorem JOk.entOk {n : Nat} {D : Dsk} {own : Nat → Bool × Nat} {J : JSt} (h : JOk n D own J) : ∀ e ∈ J.ents.map (·.1), EntOk e := by
  intro e he
  obtain ⟨x, hx, rfl⟩ := List.mem_map.1 he
  exact ⟨(h.keys x hx).2, h.vals x hx⟩
theorem indexOf_le {E : List Ent} (h : ∀ e ∈ E, EntOk e) (hl : E.length ≤ 100) : indexOf E ≤ 300 := by
  have := entsLen_le h
  unfold indexOf blocksFor
  omega
theorem JOk.stOk {n : Nat} {D : Dsk} {own : Nat → Bool × Nat} {J : JSt} (h : JOk n D own J) (h5 : n ≤ 1024) : StOk n J.st := by
  have hi := indexOf_le h.entOk (by rw [List.length_map]; exact h.few)
  have hi1 : 1 ≤ indexOf (J.ents.map (·.1)) := by unfold indexOf; omega
  refine ⟨h.srt.places, ?_, ?_, ?_, ?_, ?_, ?_, ?_, h5⟩
  · intro q hq
    obtain ⟨x, hx, rfl⟩ := List.mem_map.1 hq
    show 0 < (kb x.1.key).length ∧ (kb x.1.key).length ≤ 64
    rw [kb_length]
    exact h.keys x hx
  · intro q hq
    obtain ⟨x, hx, rfl⟩ := List.mem_map.1 hq
    have hh := h.holds x hx
    have hs := hh.size
    have hsm := hh.sum
    have hl := hh.len
    have hv := h.vals x hx
    have hc := crc_le x.1.val
    refine ⟨?_, ?_, ?_, ?_, ?_⟩
    · show x.2.size ≤ 65536
      omega
    · show 0 ≤ x.2.sum
      rw [hsm]; exact hc.1
    · show x.2.sum ≤ 4294967295
      rw [hsm]; exact hc.2
    · show x.2.blocks.length = (x.2.size + 239) / 240
      rw [hl, hs]
      rfl
    · intro b hb
      have := h.blk x hx b hb
      exact ⟨this.1, this.2.1⟩
  · show (J.ents.map _).length ≤ 512
    rw [List.length_map]
    have := h.few
    omega
  · show 0 < J.index.length
    rw [h.ilen]
    omega
  · show J.index.length ≤ 1024
    rw [h.ilen]
    omega
  · intro b hb
    have := h.iblk b hb
    exact ⟨this.1, this.2.1⟩
  · show J.gen ≤ _
    have := h.gen
    omega

/-! ### the free blocks -/
def addSt (out : List RSt) (p : RSt × Bool) : List RSt := if p.2 && !(out.any fun t => t.gen == p.1.gen) then out ++ [p.1] else out
def statesOf (now : RSt) (pins : List (RSt × Bool)) : List RSt := pins.foldl addSt [now]
def usedE (a : Nat × List Nat) (e : Ent) : Nat × List Nat := if a.2.contains e.id then a else (a.1 + blocksFor e.val.length, a.2 ++ [e.id])
def usedS (a : Nat × List Nat) (t : RSt) : Nat × List Nat := t.ents.foldl usedE (a.1 + indexOf t.ents, a.2)
def usedOf (l : List RSt) : Nat × List Nat := l.foldl usedS (2, [])
def addJ (out : List JSt) (p : JSt × Bool) : List JSt := if p.2 && !(out.any fun t => t.gen == p.1.gen) then out ++ [p.1] else out
def pinsR (pins : List (JSt × Bool)) : List (RSt × Bool) := pins.map fun p => (p.1.rs, p.2)
def heldJ (pins : List (JSt × Bool)) : List JSt := (pins.filter (·.2)).map (·.1)
theorem addJ_rs (out : List JSt) (p : JSt × Bool) : (addJ out p).map JSt.rs = addSt (out.map JSt.rs) (p.1.rs, p.2) := by
  unfold addJ addSt
  have e : ((out.map JSt.rs).any fun t => t.gen == p.1.rs.gen) = out.any fun t => t.gen == p.1.gen := by
    rw [List.any_map]
    rfl
  show _ = if p.2 && !((out.map JSt.rs).any fun t => t.gen == p.1.rs.gen) then _ else _
  rw [e]
  split
  · simp
  · rfl
theorem foldJ_rs : ∀ (pins : List (JSt × Bool)) (out : List JSt), (pins.foldl addJ out).map JSt.rs = (pinsR pins).foldl addSt (out.map JSt.rs)
  | [], _ => rfl
  | p :: r, out => by
    show ((r.foldl addJ (addJ out p))).map JSt.rs = (pinsR r).foldl addSt (addSt (out.map JSt.rs) (p.1.rs, p.2))
    rw [foldJ_rs r, addJ_rs]
/-- Each generation once; nothing is lost. -/
structure Distinct (L out : List JSt) (seen : List JSt) : Prop where
  gens : out.Pairwise fun a b => a.gen ≠ b.gen
  sub : ∀ J ∈ out, J ∈ L
  all : ∀ J ∈ seen, J ∈ out
theorem Distinct.step {L out seen : List JSt} (h : Distinct L out seen) (hs : ∀ J ∈ L, ∀ K ∈ L, J.gen = K.gen → J = K) {p : JSt × Bool} (hp : p.2 = true → p.1 ∈ L) : Distinct L (addJ out p) (if p.2 then seen ++ [p.1] else seen) := by
  unfold addJ
  cases h2 : p.2 with
  | false => simpa using h
  | true =>
    simp only [Bool.true_and, if_true]
    cases ha : out.any fun t => t.gen == p.1.gen with
    | true =>
      simp only [Bool.not_true, Bool.false_eq_true, if_false]
      obtain ⟨t, ht, he⟩ := List.any_eq_true.1 ha
      have he : t.gen = p.1.gen := by simpa using he
      have := hs t (h.sub t ht) p.1 (hp h2) he
      subst this
      refine ⟨h.gens, h.sub, fun J hJ => ?_⟩
      rcases List.mem_append.1 hJ with hJ | hJ
      · exact h.all J hJ
      · rw [List.mem_singleton.1 hJ]
        exact ht
    | false =>
      simp only [Bool.not_false, if_true]
      rw [List.any_eq_false] at ha
      refine ⟨?_, fun J hJ => ?_, fun J hJ => ?_⟩
      · rw [List.pairwise_append]
        refine ⟨h.gens, List.pairwise_singleton _ _, fun a hx b hb => ?_⟩
        rw [List.mem_singleton.1 hb]
        simpa using ha a hx
      · rcases List.mem_append.1 hJ with hJ | hJ
        · exact h.sub J hJ
        · rw [List.mem_singleton.1 hJ]
          exact hp h2
      · rcases List.mem_append.1 hJ with hJ | hJ
        · exact List.mem_append_left _ (h.all J hJ)
        · exact List.mem_append_right _ hJ
theorem Distinct.fold {L : List JSt} (hs : ∀ J ∈ L, ∀ K ∈ L, J.gen = K.gen → J = K) : ∀ (pins : List (JSt × Bool)) {out seen : List JSt}, Distinct L out seen → (∀ p ∈ pins, p.2 = true → p.1 ∈ L) → Distinct L (pins.foldl addJ out) (seen ++ heldJ pins)
  | [], out, seen, h, _ => by simpa [heldJ] using h
  | p :: r, out, seen, h, hp => by
    have h1 := Distinct.fold hs r (h.step hs (p := p) (hp p (by simp))) (fun q hq => hp q (by simp [hq]))
    have e : (if p.2 then seen ++ [p.1] else seen) ++ heldJ r = seen ++ heldJ (p :: r) := by
      unfold heldJ
      cases h2 : p.2 <;> simp [h2]
    rw [e] at h1
    exact h1

/-- Behind some states: which blocks they take, each once. -/
structure Took (done : List JSt) (part : List (Ent × Place)) (B S : List Nat) : Prop where
  nod : B.Nodup
  mem : ∀ b ∈ B, (∃ J ∈ done, b ∈ J.index) ∨ ∃ x ∈ part, b ∈ x.2.blocks
  idx : ∀ J ∈ done, ∀ b ∈ J.index, b ∈ B
  val : ∀ x ∈ part, x.1.id ∈ S ∧ ∀ b ∈ x.2.blocks, b ∈ B
  ids : ∀ i ∈ S, ∃ x ∈ part, x.1.id = i
section
variable {n : Nat} {D : Dsk} {own : Nat → Bool × Nat} {L done : List JSt} {part : List (Ent × Place)} {B S : List Nat}
/-- The live states. -/
structure World_ (n : Nat) (D : Dsk) (own : Nat → Bool × Nat) (L : List JSt) : Prop where
  ok : ∀ J ∈ L, JOk n D own J
  same : ∀ J ∈ L, ∀ K ∈ L, J.gen = K.gen → J = K
  ids : ∀ J ∈ L, ∀ K ∈ L, ∀ x ∈ J.ents, ∀ y ∈ K.ents, x.1.id = y.1.id → x = y
theorem Took.ent (h : Took done part B S) (hL : World_ n D own L) (hd : ∀ J ∈ done, J ∈ L) (hp : ∀ x ∈ part, ∃ J ∈ L, x ∈ J.ents) {J : JSt} (hJ : J ∈ L) {x : Ent × Place} (hx : x ∈ J.ents) {u : Nat} (hu : u = 2 + B.length) :
    ∃ B' S' : List Nat, usedE (u, S) x.1 = (2 + B'.length, S') ∧ Took done (part ++ [x]) B' S' := by
  unfold usedE
  by_cases hc : x.1.id ∈ S
  · have hc' : S.contains x.1.id = true := by simpa using hc
    obtain ⟨y, hy, he⟩ := h.ids _ hc
    obtain ⟨K, hK, hyK⟩ := hp y hy
    have := hL.ids K hK J hJ y hyK x hx he
    subst this
    refine ⟨B, S, by simp only [hc', if_true, hu], h.nod, fun b hb => ?_, h.idx, fun z hz => ?_, fun i hi => ?_⟩
    · rcases h.mem b hb with h1 | ⟨z, hz, h1⟩
      · exact .inl h1
      · exact .inr ⟨z, List.mem_append_left _ hz, h1⟩
    · rcases List.mem_append.1 hz with hz | hz
      · exact h.val z hz
      · rw [List.mem_singleton.1 hz]
        exact h.val y hy
    · obtain ⟨z, hz, h1⟩ := h.ids i hi
      exact ⟨z, List.mem_append_left _ hz, h1⟩
  · have hc' : S.contains x.1.id = false := by simpa using hc
    have hok := hL.ok J hJ
    refine ⟨B ++ x.2.blocks, S ++ [x.1.id], ?_, ?_, fun b hb => ?_, fun K hK b hb => List.mem_append_left _ (h.idx K hK b hb), fun z hz => ?_, fun i hi => ?_⟩
    · simp only [hc', Bool.false_eq_true, if_false, hu, List.length_append, (hok.holds x hx).len, blocksFor_need]
      rw [Nat.add_assoc]
    · rw [List.nodup_append]
      refine ⟨h.nod, hok.nod x hx, fun b hb c hc2 e => ?_⟩
      subst e
      have o1 := (hok.blk x hx b hc2).2.2
      rcases h.mem b hb with ⟨K, hK, h1⟩ | ⟨z, hz, h1⟩
      · have := ((hL.ok K (hd K hK)).iblk b h1).2.2
        rw [o1] at this
        cases this
      · obtain ⟨K, hK, hzK⟩ := hp z hz
        have := ((hL.ok K hK).blk z hzK b h1).2.2
        rw [o1] at this
        injection this with _ this
        exact hc (by rw [this]; exact (h.val z hz).1)
    · rcases List.mem_append.1 hb with hb | hb
      · rcases h.mem b hb with h1 | ⟨z, hz, h1⟩
        · exact .inl h1
        · exact .inr ⟨z, List.mem_append_left _ hz, h1⟩
      · exact .inr ⟨x, by simp, hb⟩
    · rcases List.mem_append.1 hz with hz | hz
      · obtain ⟨h1, h2⟩ := h.val z hz
        exact ⟨List.mem_append_left _ h1, fun b hb => List.mem_append_left _ (h2 b hb)⟩
      · rw [List.mem_singleton.1 hz]
        exact ⟨by simp, fun b hb => List.mem_append_right _ hb⟩
    · rcases List.mem_append.1 hi with hi | hi
      · obtain ⟨z, hz, h1⟩ := h.ids i hi
        exact ⟨z, List.mem_append_left _ hz, h1⟩
      · exact ⟨x, by simp, (List.mem_singleton.1 hi).symm⟩
theorem Took.ents (hL : World_ n D own L) (hd : ∀ J ∈ done, J ∈ L) {J : JSt} (hJ : J ∈ L) : ∀ (l : List (Ent × Place)), (∀ x ∈ l, x ∈ J.ents) → ∀ {part : List (Ent × Place)} {B S : List Nat}, Took done part B S → (∀ x ∈ part, ∃ J ∈ L, x ∈ J.ents) → ∀ {u : Nat}, u = 2 + B.length →
    ∃ B' S' : List Nat, (l.map (·.1)).foldl usedE (u, S) = (2 + B'.length, S') ∧ Took done (part ++ l) B' S'
  | [], _, part, B, S, h, _, u, hu => ⟨B, S, by simp [hu], by simpa using h⟩
  | x :: l, hl, part, B, S, h, hp, u, hu => by
    obtain ⟨B1, S1, e1, h1⟩ := h.ent hL hd hp hJ (hl x (by simp)) hu
    obtain ⟨B2, S2, e2, h2⟩ := Took.ents hL hd hJ l (fun y hy => hl y (by simp [hy])) h1 (fun y hy => by
      rcases List.mem_append.1 hy with hy | hy
      · exact hp y hy
      · exact ⟨J, hJ, by rw [List.mem_singleton.1 hy]; exact hl x (by simp)⟩) (u := 2 + B1.length) rfl
    refine ⟨B2, S2, ?_, by simpa using h2⟩
    show (l.map (·.1)).foldl usedE (usedE (u, S) x.1) = _
    rw [e1]
    exact e2
theorem Took.state (h : Took done part B S) (hL : World_ n D own L) (hd : ∀ J ∈ done, J ∈ L) (hp : ∀ x ∈ part, ∃ J ∈ L, x ∈ J.ents) {J : JSt} (hJ : J ∈ L) (hg : ∀ K ∈ done, K.gen ≠ J.gen) {u : Nat} (hu : u = 2 + B.length) :
    ∃ B' S' : List Nat, usedS (u, S) J.rs = (2 + B'.length, S') ∧ Took (done ++ [J]) (part ++ J.ents) B' S' := by
  have hok := hL.ok J hJ
  have h1 : Took (done ++ [J]) part (B ++ J.index) S := by
    refine ⟨?_, fun b hb => ?_, fun K hK b hb => ?_, fun x hx => ⟨(h.val x hx).1, fun b hb => List.mem_append_left _ ((h.val x hx).2 b hb)⟩, h.ids⟩
    · rw [List.nodup_append]
      refine ⟨h.nod, hok.inod, fun b hb c hc e => ?_⟩
      subst e
      have o1 := (hok.iblk b hc).2.2
      rcases h.mem b hb with ⟨K, hK, h1⟩ | ⟨z, hz, h1⟩
      · have := ((hL.ok K (hd K hK)).iblk b h1).2.2
        rw [o1] at this
        injection this with _ this
        exact hg K hK this.symm
      · obtain ⟨K, hK, hzK⟩ := hp z hz
        have := ((hL.ok K hK).blk z hzK b h1).2.2
        rw [o1] at this
        cases this
    · rcases List.mem_append.1 hb with hb | hb
      · rcases h.mem b hb with ⟨K, hK, h1⟩ | h1
        · exact .inl ⟨K, List.mem_append_left _ hK, h1⟩
        · exact .inr h1
      · exact .inl ⟨J, by simp, hb⟩
    · rcases List.mem_append.1 hK with hK | hK
      · exact List.mem_append_left _ (h.idx K hK b hb)
      · rw [List.mem_singleton.1 hK] at hb
        exact List.mem_append_right _ hb
  have hd' : ∀ K ∈ done ++ [J], K ∈ L := fun K hK => by
    rcases List.mem_append.1 hK with hK | hK
    · exact hd K hK
    · rw [List.mem_singleton.1 hK]
      exact hJ
  obtain ⟨B', S', e, h2⟩ := Took.ents hL hd' hJ J.ents (fun _ h => h) h1 hp (u := u + indexOf (J.ents.map (·.1))) (by rw [hu, List.length_append, hok.ilen]; omega)
  exact ⟨B', S', e, h2⟩
theorem Took.states (hL : World_ n D own L) : ∀ (l : List JSt) {done : List JSt} {part : List (Ent × Place)} {B S : List Nat}, Took done part B S → (∀ J ∈ l, J ∈ L) → (∀ J ∈ done, J ∈ L) → (∀ x ∈ part, ∃ J ∈ L, x ∈ J.ents) → (∀ x ∈ part, ∃ J ∈ done, x ∈ J.ents) → (∀ J ∈ done, ∀ x ∈ J.ents, x ∈ part) → (l.Pairwise fun a b => a.gen ≠ b.gen) → (∀ K ∈ done, ∀ J ∈ l, K.gen ≠ J.gen) → ∀ {u : Nat}, u = 2 + B.length →
    ∃ B' S' : List Nat, (l.map JSt.rs).foldl usedS (u, S) = (2 + B'.length, S') ∧ B'.Nodup ∧ ∀ b, b ∈ B' ↔ ∃ J ∈ done ++ l, b ∈ J.index ∨ ∃ x ∈ J.ents, b ∈ x.2.blocks
  | [], done, part, B, S, h, _, _, _, hp2, hp3, _, _, u, hu => by
    refine ⟨B, S, by simp [hu], h.nod, fun b => ⟨fun hb => ?_, ?_⟩⟩
    · rcases h.mem b hb with ⟨J, hJ, h1⟩ | ⟨x, hx, h1⟩
      · exact ⟨J, by simpa using hJ, .inl h1⟩
      · obtain ⟨J, hJ, hxJ⟩ := hp2 x hx
        exact ⟨J, by simpa using hJ, .inr ⟨x, hxJ, h1⟩⟩
    · rintro ⟨J, hJ, h1 | ⟨x, hx, h1⟩⟩
      · exact h.idx J (by simpa using hJ) b h1
      · exact (h.val x (hp3 J (by simpa using hJ) x hx)).2 b h1
  | J :: l, done, part, B, S, h, hl, hd, hp, hp2, hp3, hg, hg2, u, hu => by
    rw [List.pairwise_cons] at hg
    obtain ⟨B1, S1, e1, h1⟩ := h.state hL hd hp (hl J (by simp)) (fun K hK => hg2 K hK J (by simp)) hu
    obtain ⟨B2, S2, e2, h2, h3⟩ := Took.states hL l h1 (fun K hK => hl K (by simp [hK])) (fun K hK => by
      rcases List.mem_append.1 hK with hK | hK
      · exact hd K hK
      · rw [List.mem_singleton.1 hK]; exact hl J (by simp)) (fun x hx => by
      rcases List.mem_append.1 hx with hx | hx
      · exact hp x hx
      · exact ⟨J, hl J (by simp), hx⟩) (fun x hx => by
      rcases List.mem_append.1 hx with hx | hx
      · obtain ⟨K, hK, h4⟩ := hp2 x hx
        exact ⟨K, List.mem_append_left _ hK, h4⟩
      · exact ⟨J, by simp, hx⟩) (fun K hK x hx => by
      rcases List.mem_append.1 hK with hK | hK
      · exact List.mem_append_left _ (hp3 K hK x hx)
      · rw [List.mem_singleton.1 hK] at hx
        exact List.mem_append_right _ hx) hg.2 (fun K hK K2 hK2 => by
      rcases List.mem_append.1 hK with hK | hK
      · exact hg2 K hK K2 (by simp [hK2])
      · rw [List.mem_singleton.1 hK]
        exact hg.1 K2 hK2) (u := 2 + B1.length) rfl
    refine ⟨B2, S2, ?_, h2, fun b => (h3 b).trans ?_⟩
    · show (l.map JSt.rs).foldl usedS (usedS (u, S) J.rs) = _
      rw [e1]
      exact e2
    · simp
/-- The free blocks, as the specification counts them. -/
theorem free_count {J0 : JSt} {pins : List (JSt × Bool)} (hL : World_ n D own (J0 :: heldJ pins)) (h2 : 2 ≤ n) : (freeOf n (J0.st :: (heldJ pins).map JSt.st)).length + (usedOf (statesOf J0.rs (pinsR pins))).1 = n := by
  have hd : Distinct (J0 :: heldJ pins) (pins.foldl addJ [J0]) ([J0] ++ heldJ pins) := by
    refine Distinct.fold hL.same pins ⟨List.pairwise_singleton _ _, fun J hJ => by rw [List.mem_singleton.1 hJ]; simp, fun _ h => h⟩ fun p hp h2 => ?_
    refine List.mem_cons_of_mem _ (List.mem_map.2 ⟨p, List.mem_filter.2 ⟨hp, h2⟩, rfl⟩)
  obtain ⟨B, S, e, hB, hm⟩ := Took.states hL (pins.foldl addJ [J0]) (done := []) (part := []) (B := []) (S := []) ⟨List.nodup_nil, fun b h => by simp at h, fun _ h => by simp at h, fun _ h => by simp at h, fun _ h => by simp at h⟩ hd.sub (fun _ h => by simp at h) (fun _ h => by simp at h) (fun _ h => by simp at h) (fun _ h => by simp at h) hd.gens (fun _ h => by simp at h) (u := 2) rfl
  rw [List.nil_append] at hm
  have e2 : usedOf (statesOf J0.rs (pinsR pins)) = (2 + B.length, S) := by
    unfold usedOf statesOf
    rw [show [J0.rs] = [J0].map JSt.rs from rfl, ← foldJ_rs]
    exact e
  have hc := freeOf_count (n := n) (sts := J0.st :: (heldJ pins).map JSt.st) hB (fun b hb => by
    obtain ⟨J, hJ, h1⟩ := (hm b).1 hb
    have hok := hL.ok J (hd.sub J hJ)
    rcases h1 with h1 | ⟨x, hx, h1⟩
    · exact ⟨(hok.iblk b h1).1, (hok.iblk b h1).2.1⟩
    · exact ⟨(hok.blk x hx b h1).1, (hok.blk x hx b h1).2.1⟩) (fun i => by
    have e3 : J0.st :: (heldJ pins).map JSt.st = (J0 :: heldJ pins).map JSt.st := rfl
    rw [e3, Bool.eq_iff_iff, List.contains_iff_mem, hm i]
    unfold takenBy
    rw [List.any_map, List.any_eq_true]
    constructor
    · rintro ⟨J, hJ, h1⟩
      refine ⟨J, hd.all J hJ, ?_⟩
      simp only [Function.comp_apply, stHas, Bool.or_eq_true, List.contains_iff_mem, List.any_eq_true] at h1
      rcases h1 with h1 | ⟨q, hq, h1⟩
      · exact .inl h1
      · obtain ⟨x, hx, rfl⟩ := List.mem_map.1 hq
        exact .inr ⟨x, hx, h1⟩
    · rintro ⟨J, hJ, h1⟩
      refine ⟨J, hd.sub J hJ, ?_⟩
      simp only [Function.comp_apply, stHas, Bool.or_eq_true, List.contains_iff_mem, List.any_eq_true]
      rcases h1 with h1 | ⟨x, hx, h1⟩
      · exact .inl h1
      · exact .inr ⟨_, List.mem_map.2 ⟨x, hx, rfl⟩, h1⟩) h2
  rw [e2]
  show _ + (2 + B.length) = n
  omega
end

end Go.Proofs.YtbgiklkpinflaaaGreat
