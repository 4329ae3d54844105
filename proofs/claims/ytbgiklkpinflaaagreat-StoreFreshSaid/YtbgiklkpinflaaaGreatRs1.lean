/- The reference's store: states as data, how they lie in memory; Find, parts, Index. -/
import Derived.Test.YtbgiklkpinflaaaGreatLaw
namespace Go.Proofs.YtbgiklkpinflaaaGreat
open Go.RowKit Go.Shelf
attribute [local go_sem ↓] Go.wp_at_zero Go.wp_at_succ

/-- A key with its value. -/
structure Ent where
  key : ByteArray
  val : List UInt8
  id : Nat
structure RSt where
  gen : Nat
  ents : List Ent
/-- The cells of entries, each with the slice of its value. -/
def entCells (ps : List (Ent × Value)) : List Value := ps.flatMap fun p => [.string p.1.key, p.2, .int .i64 (p.1.id : Int)]
theorem entCells_append (ps qs : List (Ent × Value)) : entCells (ps ++ qs) = entCells ps ++ entCells qs := by simp [entCells]
theorem entCells_length (ps : List (Ent × Value)) : (entCells ps).length = ps.length * 3 := by
  induction ps with
  | nil => rfl
  | cons p ps ih => simp only [entCells, List.flatMap_cons, List.length_append, List.length_cons, List.length_nil] at ih ⊢; omega
theorem entCells_at : ∀ (ps : List (Ent × Value)) (j : Nat) (p : Ent × Value), ps[j]? = some p → (entCells ps)[j * 3]? = some (.string p.1.key) ∧ (entCells ps)[j * 3 + 1]? = some p.2 ∧ (entCells ps)[j * 3 + 2]? = some (.int .i64 (p.1.id : Int))
  | [], j, p, h => by simp at h
  | q :: ps, 0, p, h => by
    simp only [List.getElem?_cons_zero, Option.some.injEq] at h
    subst h
    exact ⟨rfl, rfl, rfl⟩
  | q :: ps, j + 1, p, h => by
    have ih := entCells_at ps j p (by simpa using h)
    have e : (j + 1) * 3 = j * 3 + 3 := by omega
    have g : ∀ m, (entCells (q :: ps))[m + 3]? = (entCells ps)[m]? := fun m => rfl
    rw [e, show j * 3 + 3 + 1 = (j * 3 + 1) + 3 by omega, show j * 3 + 3 + 2 = (j * 3 + 2) + 3 by omega, g, g, g]
    exact ih
/-- The slice v holds the entries of ps. -/
def EntsP (P : Nat → Prop) (w : World) (base : Nat) (v : Value) (ps : List (Ent × Value)) : Prop :=
  w.ownsRow base 114 3 v ps.length (entCells ps) ∧ ∀ p ∈ ps, BytesAt P w p.2 p.1.val
/-- The slice v holds the entries E. -/
def EntsAt (P : Nat → Prop) (w : World) (v : Value) (E : List Ent) : Prop := ∃ ps, ps.map (·.1) = E ∧ EntsP P w 0 v ps

section
variable {P F : Nat → Prop} {w w' : World} {base : Nat} {v : Value} {ps : List (Ent × Value)} {E : List Ent}
theorem EntsP.keeps (h : EntsP P w base v ps) (k : Keeps F w w') (hF : ∀ g t cs, F g → Blk w g t cs → t ≠ 114 ∧ (P g → t ≠ 5)) : EntsP P w' base v ps := by
  refine ⟨ownsRow_keeps h.1 k fun g hg hf => ?_, fun p hp => (h.2 p hp).keeps k fun g cs hf hp hb => (hF g _ cs hf hb).2 hp rfl⟩
  rcases h.1.2 with ⟨e, _⟩ | ⟨g', cap, cur, e, _, hb, _⟩
  · rw [e] at hg; simp [Value.ownBlock] at hg
  · rw [e] at hg; simp [Value.ownBlock] at hg
    subst hg
    exact (hF _ _ _ hf (Blk.keeps (F := fun _ => False) (t := 114) hb (Keeps.refl _ w) id)).1 rfl
theorem EntsAt.keeps (h : EntsAt P w v E) (k : Keeps F w w') (hF : ∀ g t cs, F g → Blk w g t cs → t ≠ 114 ∧ (P g → t ≠ 5)) : EntsAt P w' v E := by
  obtain ⟨ps, e, h⟩ := h
  exact ⟨ps, e, h.keeps k hF⟩
theorem EntsAt.below (h : EntsAt P w v E) (hb : Below w.heap.size w w') : EntsAt P w' v E := h.keeps (F := fun _ => False) (Keeps.of_below hb) fun _ _ _ h _ => h.elim
theorem EntsP.below (h : EntsP P w base v ps) (hb : Below w.heap.size w w') : EntsP P w' base v ps := h.keeps (F := fun _ => False) (Keeps.of_below hb) fun _ _ _ h _ => h.elim
theorem EntsP.row (h : EntsP P w base v ps) : ∃ A c, v = .slice A ps.length c ∧ ∀ (j : Nat) (p : Ent × Value), ps[j]? = some p → ∃ g, A = some ⟨g, 0, none⟩ ∧ w.cell? ⟨g, j * 3, none⟩ = some (.string p.1.key) ∧ w.cell? ⟨g, j * 3 + 1, none⟩ = some p.2 ∧ w.cell? ⟨g, j * 3 + 2, none⟩ = some (.int .i64 (p.1.id : Int)) := by
  rcases h.1.2 with ⟨e, h0⟩ | ⟨g, cap, cur, e, _, hb, hn, hm, hs, ht⟩
  · refine ⟨none, 0, ?_, fun j p hj => ?_⟩
    · rw [e]
      have : ps.length = 0 := h0
      rw [this]
    · have : j < ps.length := (List.getElem?_eq_some_iff.1 hj).1
      have : ps.length = 0 := h0
      omega
  · refine ⟨_, cap, e, fun j p hj => ⟨g, rfl, ?_⟩⟩
    obtain ⟨a, b, c⟩ := entCells_at ps j p hj
    have hjl : j < ps.length := (List.getElem?_eq_some_iff.1 hj).1
    have hc := take_cells (t := 114) hb ht
    have f : ∀ m u, (entCells ps)[m]? = some u → w.cell? ⟨g, m, none⟩ = some u := fun m u hu => by have := hc m u hu; rwa [Nat.zero_add] at this
    exact ⟨f _ _ a, f _ _ b, f _ _ c⟩
end

theorem keq (a b : ByteArray) : (a.toList == b.toList) = decide (a = b) := by
  rw [Lib.toList_data, Lib.toList_data]
  by_cases h : a = b
  · simp [h]
  · have : a.data.toList ≠ b.data.toList := fun e => h (Go.WideShapes.bytes_inj e)
    rw [decide_eq_false h]
    simpa using this
/-- Where a key stands. -/
def findIx (E : List Ent) (k : ByteArray) : Option Nat := E.findIdx? fun e => decide (e.key = k)
def findInt (E : List Ent) (k : ByteArray) : Int := match findIx E k with | some i => (i : Int) | none => -1
theorem findInt_some {E : List Ent} {k : ByteArray} {i : Nat} {e : Ent} (h : E[i]? = some e) (he : e.key = k) (hn : ∀ (j : Nat) (x : Ent), j < i → E[j]? = some x → x.key ≠ k) : findInt E k = (i : Int) := by
  have : findIx E k = some i := by
    unfold findIx
    rw [List.findIdx?_eq_some_iff_getElem]
    obtain ⟨hi, hx⟩ := List.getElem?_eq_some_iff.1 h
    refine ⟨hi, by rw [hx]; simpa using he, fun j hj => ?_⟩
    have := hn j E[j] hj (List.getElem?_eq_getElem (by omega))
    simpa using this
  unfold findInt
  rw [this]
theorem findInt_none {E : List Ent} {k : ByteArray} (hn : ∀ (j : Nat) (x : Ent), E[j]? = some x → x.key ≠ k) : findInt E k = -1 := by
  have : findIx E k = none := by
    unfold findIx
    rw [List.findIdx?_eq_none_iff]
    intro x hx
    obtain ⟨j, hj, rfl⟩ := List.getElem_of_mem hx
    have := hn j _ (List.getElem?_eq_getElem hj)
    simpa using this
  unfold findInt
  rw [this]

set_option maxRecDepth 100000 in
set_option maxHeartbeats 2000000 in
theorem find_calls {P : Nat → Prop} {w : World} {v : Value} {E : List Ent} (h : EntsAt P w v E) (gen : Int) (k : ByteArray) (hl : E.length ≤ 1000000) :
    Calls Tryz.prog 81 #[.agg #[.int .i64 gen, v], .string k] w fun e w' => e = .returned (.int .i64 (findInt E k)) ∧ Below w.heap.size w w' := by
  obtain ⟨ps, rfl, h⟩ := h
  have hpl : ps.length ≤ 1000000 := by simpa using hl
  obtain ⟨A, c, rfl, hrow⟩ := h.row
  have HROW := Lib.hid hrow
  have HB := Lib.hid h.2
  clear hrow h hl
  go_enter Tryz.func81, Tryz.ntmps81
  go_wp2
  go_loopw [5, 6, 10] (fun _ _ x wr => ∃ j : Nat, j ≤ ps.length ∧ x = .int .i64 j ∧ Below w.heap.size w wr ∧ ∀ i p, i < j → ps[i]? = some p → p.1.key ≠ k) (fun _ _ x _ => ps.length - (intOf x).toNat)
  case atStart => exact ⟨0, Nat.zero_le _, rfl, (Below.refl _ w).alloc (Nat.le_refl _) _, fun i p hi => by omega⟩
  case round =>
    obtain ⟨j, hj, rfl, hM, hne⟩ := hrel
    have HM := Lib.hid hM
    have HNE := Lib.hid hne
    by_cases hlt : j < ps.length
    · have tk : decide ((j : Int) < (ps.length : Int)) = true := by simp; omega
      obtain ⟨g, rfl, q0, q1, q2⟩ := HROW.out j _ (List.getElem?_eq_getElem hlt)
      obtain ⟨gx, cx, curx, hvx, _⟩ := (HB.out _ (List.getElem_mem hlt)).cells
      rw [hvx] at q1
      have q0 := (hM.cell (World.block_lt_of_cell? w _ q0)).trans q0
      have q1 := (hM.cell (World.block_lt_of_cell? w _ q1)).trans q1
      have q2 := (hM.cell (World.block_lt_of_cell? w _ q2)).trans q2
      have HP : Hid (ps[j]? = some ps[j]) := List.getElem?_eq_getElem hlt
      obtain ⟨p, hp⟩ : ∃ p, p = ps[j] := ⟨_, rfl⟩
      rw [← hp] at q0 q1 q2 HP
      clear hM hne hvx hp
      by_cases he : p.1.key = k
      · have HE := Lib.hid he
        clear he
        have he2 : (p.1.key.toList == k.toList) = true := by rw [keq]; simpa using HE.out
        go_wp2
        go_ret
        refine ⟨ret_int (findInt_some (e := p.1) (by rw [List.getElem?_map, HP.out]; rfl) HE.out fun i x hi hx => ?_).symm, (HM.out.alloc (by have := HM.out.size; omega) _)⟩
        rw [List.getElem?_map] at hx
        cases hpi : ps[i]? with
        | none => rw [hpi] at hx; cases hx
        | some q =>
          rw [hpi] at hx
          simp only [Option.map_some, Option.some.injEq] at hx
          subst hx
          exact HNE.out i q hi hpi
      · have HE := Lib.hid he
        clear he
        have he2 : (p.1.key.toList == k.toList) = false := by rw [keq]; simpa using HE.out
        go_wp2
        go_roundw
        case rel =>
          refine ⟨j + 1, by omega, by go_num, HM.out.alloc HM.out.size _, fun i q hi hq => ?_⟩
          rcases Nat.lt_or_ge i j with h | h
          · exact HNE.out i q h hq
          · have : i = j := by omega
            subst this
            rw [HP.out] at hq
            injection hq with hq
            rw [← hq]
            exact HE.out
        case measure => simp [intOf]; omega
    · obtain rfl : j = ps.length := by omega
      have tk : decide ((ps.length : Int) < ps.length) = false := by simp
      clear hM hne
      go_wp2
      go_ret
      refine ⟨ret_int (findInt_none fun i x hi => ?_).symm, HM.out⟩
      rw [List.getElem?_map] at hi
      cases hpi : ps[i]? with
      | none => rw [hpi] at hi; cases hi
      | some p =>
        rw [hpi] at hi
        simp only [Option.map_some, Option.some.injEq] at hi
        subst hi
        exact HNE.out i p (List.getElem?_eq_some_iff.1 hpi).1 hpi

set_option maxHeartbeats 1000000 in
theorem parts_calls (n : Nat) (w : World) (h : n ≤ 1000000000) : Calls Tryz.prog 69 #[.int .i64 (n : Int)] w fun e w' => e = .returned (.int .i64 (((n + 239) / 240 : Nat) : Int)) ∧ w = w' := by
  go_enter Tryz.func69, Tryz.ntmps69
  go_wp2
  go_ret
  exact ⟨ret_int (by omega), rfl⟩

def blocksFor (n : Nat) : Nat := (n + 239) / 240
def entLen (e : Ent) : Nat := 8 + e.key.size + 2 * blocksFor e.val.length
/-- How long the index is. -/
def entsLen (E : List Ent) : Nat := (E.map entLen).sum
def indexOf (E : List Ent) : Nat := max (blocksFor (entsLen E)) 1
theorem entsLen_take {E : List Ent} {j : Nat} {e : Ent} (h : E[j]? = some e) : entsLen (E.take (j + 1)) = entsLen (E.take j) + entLen e := by
  obtain ⟨hj, rfl⟩ := List.getElem?_eq_some_iff.1 h
  unfold entsLen
  rw [List.take_succ_eq_append_getElem hj, List.map_append, List.sum_append]
  simp
/-- What every entry keeps to. -/
def EntOk (e : Ent) : Prop := e.key.size ≤ 64 ∧ e.val.length ≤ 65536
theorem entLen_le {e : Ent} (h : EntOk e) : entLen e ≤ 700 := by
  have h1 := h.1
  have h2 := h.2
  unfold entLen blocksFor
  omega
theorem entsLen_le {E : List Ent} (h : ∀ e ∈ E, EntOk e) : entsLen E ≤ 700 * E.length := by
  unfold entsLen
  induction E with
  | nil => simp
  | cons e E ih =>
    have := ih fun x hx => h x (List.mem_cons_of_mem _ hx)
    have := entLen_le (h e (List.mem_cons_self ..))
    simp only [List.map_cons, List.sum_cons, List.length_cons]
    omega

set_option maxRecDepth 100000 in
set_option maxHeartbeats 2000000 in
theorem index_calls_ref {P : Nat → Prop} {w : World} {v : Value} {E : List Ent} (h : EntsAt P w v E) (gen : Int) (hl : E.length ≤ 1000) (hok : ∀ e ∈ E, EntOk e) :
    Calls Tryz.prog 68 #[.agg #[.int .i64 gen, v]] w fun e w' => e = .returned (.int .i64 (indexOf E : Int)) ∧ Below w.heap.size w w' := by
  obtain ⟨ps, rfl, h⟩ := h
  have hpl : ps.length ≤ 1000 := by simpa using hl
  obtain ⟨A, c, rfl, hrow⟩ := h.row
  have HROW := Lib.hid hrow
  have HB := Lib.hid h.2
  have HOK := Lib.hid hok
  obtain ⟨E, hE⟩ : ∃ E, E = ps.map (·.1) := ⟨_, rfl⟩
  rw [← hE] at HOK ⊢
  have hlen : E.length = ps.length := by rw [hE]; simp
  have HE := Lib.hid hE
  have HSUM : Hid (∀ j, entsLen (E.take j) ≤ 700000) := fun j => by
    have := entsLen_le (E := E.take j) fun e he => HOK.out e (List.mem_of_mem_take he)
    rw [List.length_take] at this
    omega
  have HLEN := Lib.hid hlen
  clear hrow h hl hok hE hlen
  go_enter Tryz.func68, Tryz.ntmps68
  go_wp2
  go_loopw [3, 5, 9] (fun n _ x wr => ∃ j : Nat, j ≤ ps.length ∧ x = .int .i64 j ∧ n = .int .i64 (entsLen (E.take j) : Int) ∧ Below w.heap.size w wr) (fun _ _ x _ => ps.length - (intOf x).toNat)
  case atStart => exact ⟨0, Nat.zero_le _, rfl, by simp [entsLen], (Below.refl _ w).alloc (Nat.le_refl _) _⟩
  case round =>
    obtain ⟨j, hj, rfl, rfl, hM⟩ := hrel
    have HM := Lib.hid hM
    by_cases hlt : j < ps.length
    · have tk : decide ((j : Int) < (ps.length : Int)) = true := by simp; omega
      obtain ⟨g, rfl, q0, q1, q2⟩ := HROW.out j _ (List.getElem?_eq_getElem hlt)
      obtain ⟨gx, cx, curx, hvx, _⟩ := (HB.out _ (List.getElem_mem hlt)).cells
      rw [hvx] at q1
      have q0 := (hM.cell (World.block_lt_of_cell? w _ q0)).trans q0
      have q1 := (hM.cell (World.block_lt_of_cell? w _ q1)).trans q1
      have q2 := (hM.cell (World.block_lt_of_cell? w _ q2)).trans q2
      have hp1 : E[j]? = some ps[j].1 := by rw [HE.out, List.getElem?_map, List.getElem?_eq_getElem hlt]; rfl
      obtain ⟨p, hp⟩ : ∃ p, p = ps[j] := ⟨_, rfl⟩
      rw [← hp] at q0 q1 q2 hp1
      have HT := Lib.hid (entsLen_take hp1)
      have hs := HSUM.out j
      obtain ⟨o1, o2⟩ := HOK.out _ (List.mem_of_getElem? hp1)
      obtain ⟨sm, hsm⟩ : ∃ sm, sm = entsLen (E.take j) := ⟨_, rfl⟩
      rw [← hsm] at hs HT ⊢
      have HPC : Hid (∀ nq o, Calls Tryz.prog 69 #[.int .i64 (p.1.val.length : Int)] ((wr.alloc o).drewN nq) fun e w' => e = .returned (.int .i64 (((p.1.val.length + 239) / 240 : Nat) : Int)) ∧ w' = (wr.alloc o).drewN nq) := fun nq o => (parts_calls _ _ (by omega)).mono fun _ _ h => ⟨h.1, h.2.symm⟩
      clear hM hvx hp hp1 hsm
      have hw1 : IntKind.i64.wrap (8 + (p.1.key.size : Int)) = 8 + (p.1.key.size : Int) := IntWalk.i64_in _ (by omega)
      have hw2 : IntKind.i64.wrap (2 * (((p.1.val.length + 239) / 240 : Nat) : Int)) = 2 * (((p.1.val.length + 239) / 240 : Nat) : Int) := IntWalk.i64_in _ (by omega)
      have hw3 : IntKind.i64.wrap (8 + (p.1.key.size : Int) + 2 * (((p.1.val.length + 239) / 240 : Nat) : Int)) = 8 + (p.1.key.size : Int) + 2 * (((p.1.val.length + 239) / 240 : Nat) : Int) := IntWalk.i64_in _ (by omega)
      have hw4 : IntKind.i64.wrap ((sm : Int) + (8 + (p.1.key.size : Int) + 2 * (((p.1.val.length + 239) / 240 : Nat) : Int))) = (sm : Int) + (8 + (p.1.key.size : Int) + 2 * (((p.1.val.length + 239) / 240 : Nat) : Int)) := IntWalk.i64_in _ (by omega)
      go_wp2
      go_quiet ((go_at_call 69; exact Calls.quiet_of_same (HPC.out _ _)))
      go_wp2
      go_roundw
      case rel =>
        refine ⟨j + 1, by omega, by go_num, ?_, (HM.out.alloc HM.out.size _).drewN_ _⟩
        rw [HT.out]
        refine congrArg (Value.int IntKind.i64) ?_
        unfold entLen blocksFor
        omega
      case measure => simp [intOf]; omega
    · obtain rfl : j = ps.length := by omega
      have tk : decide ((ps.length : Int) < ps.length) = false := by simp
      have hs := HSUM.out ps.length
      have ht : E.take ps.length = E := by rw [← HLEN.out, List.take_length]
      rw [ht] at hs ⊢
      clear hM ht
      go_wp2_with (go_at_call 69; refine (parts_calls _ _ (by omega)).mono ?_; rintro e w2 ⟨rfl, rfl⟩)
      go_ret
      refine ⟨ret_int ?_, HM.out⟩
      unfold indexOf blocksFor
      omega

end Go.Proofs.YtbgiklkpinflaaaGreat
