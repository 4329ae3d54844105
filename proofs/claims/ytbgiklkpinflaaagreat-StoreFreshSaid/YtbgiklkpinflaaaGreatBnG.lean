/- The calls of the store and of its specification: they answer alike. The bench's do: Begin, Put, Delete, Commit, Abort. The bench's do: Get, Snapshot. The bench's do: Snapshot. -/
import Derived.Test.YtbgiklkpinflaaaGreatBnF
import Derived.Test.YtbgiklkpinflaaaGreatDelA

namespace Go.Proofs.YtbgiklkpinflaaaGreat
open Go.RowKit Go.Shelf Go.Maps
attribute [local go_sem ↓] Go.wp_at_zero Go.wp_at_succ

section
variable {Ar : Nat → Prop} {m : Nat} {Y : Joint} {nx : Nx}
theorem Ok.next_ok (h : Ok m Y) (ht : Y.trans = some nx) {st' : St} (hn : Y.now.st.next (noted nx) (goneOf Y.now nx) (freeOf Y.n (Y.live.map JSt.st)) = some st') : StOk Y.n st' := by
  have t := h.trans nx ht
  obtain ⟨own, hw⟩ := h.own
  obtain ⟨D0, hD0⟩ : ∃ D0 : Dsk, D0 = { Y.disk with armed := 0 } := ⟨_, rfl⟩
  have hl0 : D0.blocks.length = Y.n := by rw [hD0]; exact h.len
  have hup : Up D0 := by rw [hD0]; exact ⟨rfl, h.down⟩
  have hh0 : ∀ J ∈ Y.live, ∀ x ∈ J.ents, Holds D0 x.2 x.1.val := fun J hJ x hx => by
    rw [hD0]
    have hh := (hw.ok J hJ).holds x hx
    exact ⟨hh.size, hh.sum, hh.len, hh.see⟩
  obtain ⟨D', hc, hW⟩ := commit_up hup (st := Y.now.st) (ns := noted nx) (gs := goneOf Y.now nx) (sts := Y.sto.pins) t.ok.srt.noted_ (by rw [hl0]; have := h.n4; omega) (by rw [hl0]; exact hn)
  have hnew := commit_holds (D := D0) (gs := goneOf Y.now nx) (st := Y.now.st) (sts := Y.live.map JSt.st) t.ok.srt.noted_ (by rw [hl0]; have := h.n4; omega) (by rw [hl0]; exact hn) hW
  have hold : ∀ J ∈ Y.live, ∀ x ∈ J.ents, Holds D' x.2 x.1.val := fun J hJ x hx => by
    refine (hh0 J hJ x hx).wrote hW fun b hb => ?_
    have hbk := (hw.ok J hJ).blk x hx b hb
    refine ⟨by rw [hl0]; exact hbk.2.1, fun hm => ?_⟩
    rcases (commit_nodup hn t.ok.srt.noted_).2.1 b hm with h1 | h1
    · have h3 := (mem_freeOf.1 h1).2.2
      unfold takenBy at h3
      rw [List.any_eq_false] at h3
      refine h3 J.st (List.mem_map.2 ⟨J, hJ, rfl⟩) ?_
      simp only [stHas, Bool.or_eq_true, List.any_eq_true]
      exact .inr ⟨(kb x.1.key, x.2), List.mem_map.2 ⟨x, hx, rfl⟩, by simpa using hb⟩
    · omega
  obtain ⟨hst, own', hw'⟩ := h.world ht hn hold hnew
  rw [← hst]
  exact (hw'.ok _ (by simp)).stOk h.n5
end

def SRet (w0 w : World) (g d s r : Nat) (X' : Sto) (Q : List PinPlace) (R : RSto) (bp O S : List Nat) (bv : Value) (code : Int) (e : Ending) (w' : World) : Prop :=
  e = .returned (.int .i64 code) ∧ ∃ O', Bn w0 w' g d s r X' Q R bp O' S bv ∧ (∀ k ∈ O', k ∈ O ∨ w.heap.size ≤ k) ∧ Keeps (· ∈ O) w w'
def RRet (w0 w : World) (g d s r : Nat) (X : Sto) (Q : List PinPlace) (R' : RSto) (bp O S : List Nat) (bv : Value) (code : Int) (e : Ending) (w' : World) : Prop :=
  e = .returned (.int .i64 code) ∧ ∃ S', Bn w0 w' g d s r X Q R' bp O S' bv ∧ (∀ k ∈ S', k ∈ S ∨ w.heap.size ≤ k) ∧ Keeps (· ∈ S) w w'
section
variable {w0 w w' : World} {g d s r : Nat} {X X' : Sto} {Q : List PinPlace} {R R' : RSto} {bp O S : List Nat} {bv : Value} {code : Int} {e : Ending}
theorem SRet.of (h : Bn w0 w g d s r X Q R bp O S bv) (he : e = .returned (.int .i64 code)) (hp : StoNPost (w0.heap.size ≤ ·) w s d X' Q O w') : SRet w0 w g d s r X' Q R bp O S bv code e w' := by
  have hsz : w.heap.size ≤ w'.heap.size := by
    obtain ⟨_, _, _, k⟩ := hp
    exact k.size
  exact ⟨he, h.sto_step hp h.nod fun q hq => ⟨(h.qs q hq).1, Nat.lt_of_lt_of_le (h.qs q hq).2 hsz⟩⟩
theorem SRet.no (h : Bn w0 w g d s r X Q R bp O S bv) (he : e = .returned (.int .i64 code)) (hb : Below w.heap.size w w') : SRet w0 w g d s r X Q R bp O S bv code e w' :=
  ⟨he, O, h.below hb, fun _ hk => .inl hk, Keeps.of_below hb⟩
theorem RRet.of (h : Bn w0 w g d s r X Q R bp O S bv) (he : e = .returned (.int .i64 code)) (hp : RefPost w r R' S w') : RRet w0 w g d s r X Q R' bp O S bv code e w' := ⟨he, h.ref_step hp⟩
theorem RRet.no (h : Bn w0 w g d s r X Q R bp O S bv) (he : e = .returned (.int .i64 code)) (hb : Below w.heap.size w w') : RRet w0 w g d s r X Q R bp O S bv code e w' :=
  ⟨he, S, h.below hb, fun _ hk => .inl hk, Keeps.of_below hb⟩
end

/-- What a call of both has: the code, and what it makes of the two. -/
structure Both2 (Ar : Nat → Prop) (m : Nat) (Y Y' : Joint) : Prop where
  ok : Ok (m + 1) Y'
  armed : Quiet Ar Y'.disk Y'.now.st
  n : Y'.n = Y.n
  pins : Y'.pins = Y.pins
abbrev SCall (w0 : World) (g d s r : Nat) (X : Sto) (Q : List PinPlace) (bp : List Nat) (bv : Value) (f : Nat) (av : Array Value) (code : Int) (X' : Sto) : Prop :=
  ∀ w R O S, Bn w0 w g d s r X Q R bp O S bv → Calls Tryz.prog f (#[.pointer (some ⟨s, 0, none⟩)] ++ av) w (SRet w0 w g d s r X' Q R bp O S bv code)
abbrev RCall (w0 : World) (g d s r : Nat) (R : RSto) (Q : List PinPlace) (bp : List Nat) (bv : Value) (f : Nat) (av : Array Value) (code : Int) (R' : RSto) : Prop :=
  ∀ w X O S, Bn w0 w g d s r X Q R bp O S bv → Calls Tryz.prog f (#[.pointer (some ⟨r, 0, none⟩)] ++ av) w (RRet w0 w g d s r X Q R' bp O S bv code)
section
variable {Ar : Nat → Prop} {m : Nat} {Y : Joint} {w0 : World} {g d s r : Nat} {Q : List PinPlace} {bp : List Nat} {bv : Value}
theorem Both2.same (h : Ok m Y) (h0 : Quiet Ar Y.disk Y.now.st) (hm : m + 1 ≤ 100) : Both2 Ar m Y Y := ⟨h.mono (Nat.le_succ m) hm, h0, rfl, rfl⟩
theorem opened_no (ht : Y.trans = none) : Y.sto.opened = false ∧ Y.ref.opened = false := by
  show Y.trans.isSome = false ∧ Y.trans.isSome = false
  rw [ht]
  exact ⟨rfl, rfl⟩
theorem opened_yes {nx : Nx} (ht : Y.trans = some nx) : Y.sto.opened = true ∧ Y.ref.opened = true := by
  show Y.trans.isSome = true ∧ Y.trans.isSome = true
  rw [ht]
  exact ⟨rfl, rfl⟩
theorem Ok.ready_no (h : Ok m Y) (ht : Y.trans = none) : readyCode Y.sto.life Y.sto.disk Y.sto.opened = 54 := by
  unfold readyCode
  rw [h.alive, (opened_no ht).1]
  rfl
theorem begin_both (h : Ok m Y) (h0 : Quiet Ar Y.disk Y.now.st) (hm : m + 1 ≤ 100) : ∃ Y' code, Both2 Ar m Y Y' ∧
    SCall w0 g d s r Y.sto Q bp bv 32 #[] code Y'.sto ∧ RCall w0 g d s r Y.ref Q bp bv 33 #[] code Y'.ref := by
  cases ht : Y.trans with
  | none =>
    refine ⟨Y.begin_, 0, ⟨h.begin_.mono (Nat.le_succ m) hm, h0, rfl, rfl⟩, fun w R O S hB => ?_, fun w X O S hB => ?_⟩
    · exact (ston_begin hB.sto h.alive (opened_no ht).1).mono fun e w' ⟨a, b⟩ => SRet.of hB a (by rw [begin_sto ht]; exact b)
    · exact (ref_begin hB.ref (opened_no ht).2).mono fun e w' ⟨a, b⟩ => RRet.of hB a (by rw [begin_ref]; exact b)
  | some nx =>
    refine ⟨Y, 54, Both2.same h h0 hm, fun w R O S hB => ?_, fun w X O S hB => ?_⟩
    · refine (sto_begin_no hB.sto.a_ (.inr (opened_yes ht).1)).mono fun e w' ⟨a, b⟩ => SRet.no hB (a.trans ?_) b
      unfold beginCode
      rw [h.alive, (opened_yes ht).1]
      rfl
    · exact (ref_begin_no hB.ref (opened_yes ht).2).mono fun e w' ⟨a, b⟩ => RRet.no hB a b
theorem abort_both (h : Ok m Y) (h0 : Quiet Ar Y.disk Y.now.st) (hm : m + 1 ≤ 100) : ∃ Y' code, Both2 Ar m Y Y' ∧
    SCall w0 g d s r Y.sto Q bp bv 55 #[] code Y'.sto ∧ RCall w0 g d s r Y.ref Q bp bv 56 #[] code Y'.ref := by
  cases ht : Y.trans with
  | none =>
    refine ⟨Y, 54, Both2.same h h0 hm, fun w R O S hB => ?_, fun w X O S hB => ?_⟩
    · refine (ston_abort_closed hB.sto (by rw [h.ready_no ht]; decide)).mono fun e w' ⟨a, b⟩ => SRet.no hB (a.trans ?_) b
      rw [h.ready_no ht]
    · exact (ref_abort_no hB.ref (opened_no ht).2).mono fun e w' ⟨a, b⟩ => RRet.no hB a b
  | some nx =>
    refine ⟨Y.abort, 0, ⟨h.abort.mono (Nat.le_succ m) hm, h0, rfl, rfl⟩, fun w R O S hB => ?_, fun w X O S hB => ?_⟩
    · exact (ston_abort hB.sto h.alive (opened_yes ht).1).mono fun e w' ⟨a, b⟩ => SRet.of hB a b
    · exact (ref_abort hB.ref (opened_yes ht).2).mono fun e w' ⟨a, b⟩ => RRet.of hB a b
theorem delete_both (h : Ok m Y) (h0 : Quiet Ar Y.disk Y.now.st) (hm : m + 1 ≤ 100) (k : ByteArray) (hk : k.size ≤ maxLen) : ∃ Y' code, Both2 Ar m Y Y' ∧
    SCall w0 g d s r Y.sto Q bp bv 53 #[.string k] code Y'.sto ∧ RCall w0 g d s r Y.ref Q bp bv 54 #[.string k] code Y'.ref := by
  cases ht : Y.trans with
  | none =>
    refine ⟨Y, 54, Both2.same h h0 hm, fun w R O S hB => ?_, fun w X O S hB => ?_⟩
    · refine (ston_delete_closed hB.sto (by rw [h.ready_no ht]; decide) k).mono fun e w' ⟨a, b⟩ => SRet.no hB (a.trans ?_) b
      rw [h.ready_no ht]
    · exact (ref_delete_no hB.ref (opened_no ht).2 k).mono fun e w' ⟨a, b⟩ => RRet.no hB a b
  | some nx =>
    have hnl : Y.ref.next.ents.length ≤ 1000 := Nat.le_trans h.refOk.next.1 (by omega)
    have hne : Y.ref.next.ents = nxEnts nx := by
      show (nextR Y.now Y.trans).ents = _
      rw [ht]
      rfl
    have hhas : Y.sto.hasKey (kb k) = decide (0 ≤ findInt Y.ref.next.ents k) := by rw [h.hasKey ht, nxHas_find, hne]
    by_cases hf : 0 ≤ findInt Y.ref.next.ents k
    · refine ⟨Y.del nx k, 0, ⟨(h.del ht k).mono (Nat.le_succ m) hm, h0, rfl, rfl⟩, fun w R O S hB => ?_, fun w X O S hB => ?_⟩
      · refine (ston_delete hB.sto h.alive (opened_yes ht).1 ?_ k hk ?_).mono fun e w' ⟨a, b⟩ => SRet.of hB a (by rw [del_sto h ht]; exact b)
        · rw [h.goneEq ht]
          have := goneOf_few Y.now nx
          have := h.few Y.now (by simp [Joint.live])
          have := h.m100
          omega
        · exact hhas.trans (by simpa using hf)
      · exact (ref_delete hB.ref (opened_yes ht).2 k hnl hf).mono fun e w' ⟨a, b⟩ => RRet.of hB a (by rw [del_ref ht]; exact b)
    · refine ⟨Y, 55, Both2.same h h0 hm, fun w R O S hB => ?_, fun w X O S hB => ?_⟩
      · exact (ston_delete_nokey hB.sto h.alive (opened_yes ht).1 k hk (hhas.trans (by simpa using hf))).mono fun e w' ⟨a, b⟩ => SRet.no hB a b
      · exact (ref_delete_nokey hB.ref (opened_yes ht).2 k hnl (by omega)).mono fun e w' ⟨a, b⟩ => RRet.no hB a b
theorem commit_both (h : Ok m Y) (h0 : Quiet Unarmed Y.disk Y.now.st) (hm : m + 1 ≤ 100) : ∃ Y' code, Both2 Unarmed m Y Y' ∧
    SCall w0 g d s r Y.sto Q bp bv 21 #[] code Y'.sto ∧ RCall w0 g d s r Y.ref Q bp bv 22 #[] code Y'.ref := by
  cases ht : Y.trans with
  | none =>
    refine ⟨Y, 54, Both2.same h h0 hm, fun w R O S hB => ?_, fun w X O S hB => ?_⟩
    · refine (ston_commit_closed hB.sto (by rw [h.ready_no ht]; decide)).mono fun e w' ⟨a, b⟩ => SRet.no hB (a.trans ?_) b
      rw [h.ready_no ht]
    · exact (ref_commit_no hB.ref (opened_no ht).2).mono fun e w' ⟨a, b⟩ => RRet.no hB a b
  | some nx =>
    have t := h.trans nx ht
    have hc : ∀ w R O S, Bn w0 w g d s r Y.sto Q R bp O S bv → Calls Tryz.prog 21 #[.pointer (some ⟨s, 0, none⟩)] w fun e w' => e = .returned (.int .i64 Y.sto.commit.1) ∧ StoNPost (w0.heap.size ≤ ·) w s d Y.sto.commit.2 Q O w' := fun w R O S hB => by
      refine ston_commit hB.sto h.alive (opened_yes ht).1 h.stNow h.stPins h.few_pins ?_ ?_ ?_ ?_ ?_ ?_
      · rw [h.notes ht]
        exact t.ok.srt.noted_
      · rw [h.goneEq ht]
        exact h.srt.gone nx
      · rw [h.notes ht]
        intro x hx
        obtain ⟨y, hy, _, rfl⟩ := mem_noted.1 hx
        refine ⟨?_, t.ok.vals y hy⟩
        show (kb y.1.key).length ≤ 64
        rw [kb_length]
        exact (t.ok.keys y hy).2
      · rw [h.notes ht]
        have := noted_few nx
        have := t.few
        have := h.m100
        omega
      · intro st' hst
        rw [h.notes ht, h.goneEq ht] at hst
        have e : Y.sto.disk.blocks.length = Y.n := h.len
        rw [e] at hst ⊢
        exact h.next_ok ht hst
      · have h1 := h.dlife
        have h2 := h.pend
        have h3 := h.m100
        refine ⟨?_, ?_⟩
        · show Y.disk.life + 3000 ≤ _
          omega
        · show Y.disk.pending.length + 3000 ≤ _
          rw [h2]
          simp
    by_cases hf : (Y.ref.need : Int) ≤ Y.ref.free
    · obtain ⟨Y', e1, e2, e3, e4, e5, e6, e7⟩ := h.commit_yes h0.1 ht hf hm
      rw [e1] at hc
      refine ⟨Y', 0, ⟨e3, ⟨e4, e7 h0.2⟩, ?_, e5⟩, fun w R O S hB => ?_, fun w X O S hB => ?_⟩
      · have : Y'.ref.blocks = Y.ref.comm.blocks := by rw [e2]
        exact this
      · exact (hc w R O S hB).mono fun e w' ⟨a, b⟩ => SRet.of hB a b
      · exact (ref_commit hB.ref h.refOk (opened_yes ht).2 hf).mono fun e w' ⟨a, b⟩ => RRet.of hB a (by rw [e2]; exact b)
    · rw [h.commit_no ht (by omega)] at hc
      refine ⟨Y, 52, Both2.same h h0 hm, fun w R O S hB => ?_, fun w X O S hB => ?_⟩
      · exact (hc w R O S hB).mono fun e w' ⟨a, b⟩ => SRet.of hB a b
      · exact (ref_commit_full hB.ref h.refOk (opened_yes ht).2 (by omega)).mono fun e w' ⟨a, b⟩ => RRet.no hB a b
theorem put_both (h : Ok m Y) (h0 : Quiet Ar Y.disk Y.now.st) (hm : m + 1 ≤ 100) (k : ByteArray) (l : List UInt8) (hl : l.length ≤ 65536) : ∃ Y' code, Both2 Ar m Y Y' ∧
    (∀ w R O S (P : Nat → Prop) v, BytesAt P w v l → Bn w0 w g d s r Y.sto Q R bp O S bv → Calls Tryz.prog 49 #[.pointer (some ⟨s, 0, none⟩), .string k, v] w (SRet w0 w g d s r Y'.sto Q R bp O S bv code)) ∧
    (∀ w X O S (P : Nat → Prop) v, BytesAt P w v l → Bn w0 w g d s r X Q Y.ref bp O S bv → Calls Tryz.prog 52 #[.pointer (some ⟨r, 0, none⟩), .string k, v] w (RRet w0 w g d s r X Q Y'.ref bp O S bv code)) := by
  cases ht : Y.trans with
  | none =>
    refine ⟨Y, 54, Both2.same h h0 hm, fun w R O S P v hv hB => ?_, fun w X O S P v hv hB => ?_⟩
    · refine (sto_put_closed hB.sto.a_ (by rw [h.ready_no ht]; decide) k v).mono fun e w' ⟨a, b⟩ => SRet.no hB (a.trans ?_) b
      rw [h.ready_no ht]
    · exact (ref_put_no hB.ref (opened_no ht).2 k v).mono fun e w' ⟨a, b⟩ => RRet.no hB a b
  | some nx =>
    have t := h.trans nx ht
    by_cases hk : k.size = 0 ∨ 64 < k.size
    · refine ⟨Y, 55, Both2.same h h0 hm, fun w R O S P v hv hB => ?_, fun w X O S P v hv hB => ?_⟩
      · exact (sto_put_badkey hB.sto.a_ h.alive (opened_yes ht).1 k v hk).mono fun e w' ⟨a, b⟩ => SRet.no hB a b
      · exact (ref_put_badkey hB.ref (opened_yes ht).2 k v hk).mono fun e w' ⟨a, b⟩ => RRet.no hB a b
    · have hk0 : 0 < k.size := by omega
      have hk1 : k.size ≤ 64 := by omega
      refine ⟨Y.put nx k l, 0, ⟨h.put ht ⟨hk0, hk1⟩ hl hm, h0, rfl, rfl⟩, fun w R O S P v hv hB => ?_, fun w X O S P v hv hB => ?_⟩
      · refine (ston_put (n := Y.sto.disk.blocks.length) hB.sto h.alive (opened_yes ht).1 h.stNow ?_ ?_ ?_ k hk0 hk1 v l hv hl (.inr (h.room ht))).mono fun e w' ⟨a, b⟩ => SRet.of hB a (by rw [put_sto h ht]; exact b)
        · rw [h.notes ht]
          exact t.ok.srt.noted_
        · rw [h.notes ht]
          have := noted_few nx
          have := t.few
          have := h.m100
          omega
        · rw [h.goneEq ht]
          have := goneOf_few Y.now nx
          have := h.few Y.now (by simp [Joint.live])
          have := h.m100
          omega
      · exact (ref_put hB.ref h.refOk (opened_yes ht).2 k hk0 hk1 v l hv hl).mono fun e w' ⟨a, b⟩ => RRet.of hB a (by rw [put_ref ht]; exact b)
end

end Go.Proofs.YtbgiklkpinflaaaGreat

namespace Go.Proofs.YtbgiklkpinflaaaGreat
open Go.RowKit Go.Shelf Go.Maps
attribute [local go_sem ↓] Go.wp_at_zero Go.wp_at_succ

/-- What a call of the bench leaves, but Release. -/
def DoPost (Ar : Nat → Prop) (m : Nat) (w0 w : World) (g d s r : Nat) (Y : Joint) (Q : List PinPlace) (bp O S : List Nat) (bv : Value) (e : Ending) (w' : World) : Prop :=
  e = .returned (.bool true) ∧ ∃ Y' Q' bp' O' S' bv', Bn w0 w' g d s r Y'.sto Q' Y'.ref bp' O' S' bv' ∧ Ok (m + 1) Y' ∧ Quiet Ar Y'.disk Y'.now.st ∧ Y'.n = Y.n ∧ (Y'.pins = Y.pins ∨ Y'.pins = Y.pins ++ [(Y.now, true)]) ∧ Q <+: Q' ∧
    (∀ k, foot g O' S' bv' k → foot g O S bv k ∨ w.heap.size ≤ k) ∧ Keeps (foot g O S bv) w w' ∧ (PinsRel w Y.pins Q bp → PinsRel w' Y'.pins Q' bp')
abbrev opCells (kd : Nat) (key : ByteArray) (n y : Nat) : Array Value := #[.int .u8 (kd : Int), .string key, .int .u16 (n : Int), .int .u8 (y : Int)]
section
variable {Ar : Nat → Prop} {m : Nat} {w0 w wa w2 w2b w3 : World} {g d s r : Nat} {X : Sto} {R : RSto} {Y Y' : Joint} {Q : List PinPlace} {bp O O' S S' : List Nat} {bv : Value}
theorem Bn.foot_no (h : Bn w0 w g d s r X Q R bp O S bv) : ∀ q, foot g O S bv q → ∀ t cs, Blk w q t cs → t ≠ 103 ∧ t ≠ 29 ∧ t ≠ 5 ∧ t ≠ 46 ∧ t ≠ 114 := by
  intro q hq t cs hb
  rcases hq with rfl | hq | hq | hq
  · rw [(hb.det h.bench).2]
    exact ⟨by decide, by decide, by decide, by decide, by decide⟩
  · obtain ⟨cs', hb'⟩ := own_is_blk h.row hq
    rw [(hb.det hb').2]
    exact ⟨by decide, by decide, by decide, by decide, by decide⟩
  · rcases h.ltO q hq t cs hb with e | e | e | e | e
    all_goals
      subst e
      exact ⟨by decide, by decide, by decide, by decide, by decide⟩
  · obtain ⟨t', cs', hb', ht⟩ := h.ref.own q hq
    rw [(hb.det hb').2]
    rcases ht with e | e
    all_goals
      subst e
      exact ⟨by decide, by decide, by decide, by decide, by decide⟩
theorem DoPost.two (h : Bn w0 w g d s r Y.sto Q Y.ref bp O S bv) (hb2 : Both2 Ar m Y Y') (ka : Below w.heap.size w wa) (k2 : Keeps (· ∈ O) wa w2) (hO : ∀ k ∈ O', k ∈ O ∨ wa.heap.size ≤ k) (k3 : Keeps (· ∈ S) w2 w3) (hS : ∀ k ∈ S', k ∈ S ∨ w2.heap.size ≤ k)
    (h3 : Bn w0 w3 g d s r Y'.sto Q Y'.ref bp O' S' bv) : DoPost Ar m w0 w g d s r Y Q bp O S bv (.returned (.bool true)) w3 := by
  have k1 : Keeps (foot g O S bv) w wa := Keeps.of_below ka
  have k12 : Keeps (foot g O S bv) w w2 := k1.trans (k2.weaken fun q _ e => .inr (.inr (.inl e))) fun _ _ h => h
  have k : Keeps (foot g O S bv) w w3 := k12.trans (k3.weaken fun q _ e => .inr (.inr (.inr e))) fun _ _ h => h
  refine ⟨rfl, Y', Q, bp, O', S', bv, h3, hb2.ok, hb2.armed, hb2.n, .inl hb2.pins, List.prefix_refl _, fun q hq => ?_, k, fun hp => ?_⟩
  · rcases hq with e | e | e | e
    · exact .inl (.inl e)
    · exact .inl (.inr (.inl e))
    · rcases hO q e with e | e
      · exact .inl (.inr (.inr (.inl e)))
      · exact .inr (Nat.le_trans k1.size e)
    · rcases hS q e with e | e
      · exact .inl (.inr (.inr (.inr e)))
      · exact .inr (Nat.le_trans k12.size e)
  · rw [hb2.pins]
    exact hp.keeps k fun q hq t cs hb => (h.foot_no q hq t cs hb).1
set_option maxRecDepth 100000 in
set_option maxHeartbeats 4000000 in
theorem do_begin (h : Bn w0 w g d s r Y.sto Q Y.ref bp O S bv) (hY : Ok m Y) (h0 : Quiet Ar Y.disk Y.now.st) (hm : m + 1 ≤ 100) (kd : Nat) (key : ByteArray) (n y : Nat) (hkd : (kd : Int) % 9 = 0) :
    Calls Tryz.prog 13 #[.pointer (some ⟨g, 0, none⟩), .agg (opCells kd key n y)] w (DoPost Ar m w0 w g d s r Y Q bp O S bv) := by
  obtain ⟨Y', code, hb2, hs, hr⟩ := begin_both (w0 := w0) (g := g) (d := d) (s := s) (r := r) (Q := Q) (bp := bp) (bv := bv) hY h0 hm
  have HS := Lib.hid hs
  have HR := Lib.hid hr
  have HH := Lib.hid h
  have HB2Y := Lib.hid hb2
  have hA : Below w.heap.size w ((w.alloc (.cells (opCells kd key n y) 29)).drewN 1) := ((Below.refl _ w).alloc (Nat.le_refl _) _).drewN_ 1
  have hbx : Blk ((w.alloc (.cells (opCells kd key n y) 29)).drewN 1) w.heap.size 29 (opCells kd key n y) := (Blk.new w _ _).drewN 1
  have HBX := Lib.hid hbx
  have HA := Lib.hid hA
  have HB1 := Lib.hid (h.below hA)
  have a1 : ∀ o, (w.alloc o).cell? ⟨g, 1, none⟩ = some (.pointer (some ⟨s, 0, none⟩)) := fun o => (Blk.alloc h.bench o).cell 1
  have a2 : ∀ o, (w.alloc o).cell? ⟨g, 2, none⟩ = some (.pointer (some ⟨r, 0, none⟩)) := fun o => (Blk.alloc h.bench o).cell 2
  clear h hb2 hs hr hY h0 hm hA hbx
  go_enter Tryz.func13, Tryz.ntmps13
  go_wp2
  go_region_held3 (fun w' => w'.cell? ⟨g, 1, none⟩ = some (.pointer (some ⟨s, 0, none⟩)) ∧ w'.cell? ⟨g, 2, none⟩ = some (.pointer (some ⟨r, 0, none⟩))) (go_keep)
    ((first
      | (go_at_call 33; refine (HR.out _ _ _ _ HB2.out).mono ?_; rintro e w3 ⟨rfl, S', hB3, hS', hk3⟩; have HB3 := Lib.hid hB3; have HS3 := Lib.hid hS'; have HK3 := Lib.hid hk3; have i1 := (Blk.cell hB3.bench 1 : w3.cell? ⟨g, 1, none⟩ = some (.pointer (some ⟨s, 0, none⟩))); have i2 := (Blk.cell hB3.bench 2 : w3.cell? ⟨g, 2, none⟩ = some (.pointer (some ⟨r, 0, none⟩))); clear hB3 hS' hk3)
      | (go_at_call 32; have hB1 := HB1.out; refine (HS.out _ _ _ _ hB1).mono ?_; rintro e w2 ⟨rfl, O', hB2, hO', hk2⟩; have HB2 := Lib.hid hB2; have HO2 := Lib.hid hO'; have HK2 := Lib.hid hk2; have e1 := (Blk.cell hB2.bench 1 : w2.cell? ⟨g, 1, none⟩ = some (.pointer (some ⟨s, 0, none⟩))); have e2 := (Blk.cell hB2.bench 2 : w2.cell? ⟨g, 2, none⟩ = some (.pointer (some ⟨r, 0, none⟩))); clear hB2 hO' hk2 hB1)))
  all_goals
    go_wp2
    go_ret
    simp only [                ]
    exact DoPost.two HH.out HB2Y.out HA.out HK2.out HO2.out HK3.out HS3.out HB3.out
set_option maxRecDepth 100000 in
set_option maxHeartbeats 4000000 in
theorem do_commit (h : Bn w0 w g d s r Y.sto Q Y.ref bp O S bv) (hY : Ok m Y) (h0 : Quiet Unarmed Y.disk Y.now.st) (hm : m + 1 ≤ 100) (kd : Nat) (key : ByteArray) (n y : Nat) (hkd : (kd : Int) % 9 = 3) :
    Calls Tryz.prog 13 #[.pointer (some ⟨g, 0, none⟩), .agg (opCells kd key n y)] w (DoPost Unarmed m w0 w g d s r Y Q bp O S bv) := by
  obtain ⟨Y', code, hb2, hs, hr⟩ := commit_both (w0 := w0) (g := g) (d := d) (s := s) (r := r) (Q := Q) (bp := bp) (bv := bv) hY h0 hm
  have HS := Lib.hid hs
  have HR := Lib.hid hr
  have HH := Lib.hid h
  have HB2Y := Lib.hid hb2
  have hA : Below w.heap.size w ((w.alloc (.cells (opCells kd key n y) 29)).drewN 1) := ((Below.refl _ w).alloc (Nat.le_refl _) _).drewN_ 1
  have hbx : Blk ((w.alloc (.cells (opCells kd key n y) 29)).drewN 1) w.heap.size 29 (opCells kd key n y) := (Blk.new w _ _).drewN 1
  have HBX := Lib.hid hbx
  have HA := Lib.hid hA
  have HB1 := Lib.hid (h.below hA)
  have a1 : ∀ o, (w.alloc o).cell? ⟨g, 1, none⟩ = some (.pointer (some ⟨s, 0, none⟩)) := fun o => (Blk.alloc h.bench o).cell 1
  have a2 : ∀ o, (w.alloc o).cell? ⟨g, 2, none⟩ = some (.pointer (some ⟨r, 0, none⟩)) := fun o => (Blk.alloc h.bench o).cell 2
  clear h hb2 hs hr hY h0 hm hA hbx
  go_enter Tryz.func13, Tryz.ntmps13
  go_wp2
  go_region_held3 (fun w' => w'.cell? ⟨g, 1, none⟩ = some (.pointer (some ⟨s, 0, none⟩)) ∧ w'.cell? ⟨g, 2, none⟩ = some (.pointer (some ⟨r, 0, none⟩))) (go_keep)
    ((first
      | (go_at_call 22; refine (HR.out _ _ _ _ HB2.out).mono ?_; rintro e w3 ⟨rfl, S', hB3, hS', hk3⟩; have HB3 := Lib.hid hB3; have HS3 := Lib.hid hS'; have HK3 := Lib.hid hk3; have i1 := (Blk.cell hB3.bench 1 : w3.cell? ⟨g, 1, none⟩ = some (.pointer (some ⟨s, 0, none⟩))); have i2 := (Blk.cell hB3.bench 2 : w3.cell? ⟨g, 2, none⟩ = some (.pointer (some ⟨r, 0, none⟩))); clear hB3 hS' hk3)
      | (go_at_call 21; have hB1 := HB1.out; refine (HS.out _ _ _ _ hB1).mono ?_; rintro e w2 ⟨rfl, O', hB2, hO', hk2⟩; have HB2 := Lib.hid hB2; have HO2 := Lib.hid hO'; have HK2 := Lib.hid hk2; have e1 := (Blk.cell hB2.bench 1 : w2.cell? ⟨g, 1, none⟩ = some (.pointer (some ⟨s, 0, none⟩))); have e2 := (Blk.cell hB2.bench 2 : w2.cell? ⟨g, 2, none⟩ = some (.pointer (some ⟨r, 0, none⟩))); clear hB2 hO' hk2 hB1)))
  all_goals
    go_wp2
    go_ret
    simp only [                ]
    exact DoPost.two HH.out HB2Y.out HA.out HK2.out HO2.out HK3.out HS3.out HB3.out
set_option maxRecDepth 100000 in
set_option maxHeartbeats 4000000 in
theorem do_abort (h : Bn w0 w g d s r Y.sto Q Y.ref bp O S bv) (hY : Ok m Y) (h0 : Quiet Ar Y.disk Y.now.st) (hm : m + 1 ≤ 100) (kd : Nat) (key : ByteArray) (n y : Nat) (hkd : (kd : Int) % 9 = 4) :
    Calls Tryz.prog 13 #[.pointer (some ⟨g, 0, none⟩), .agg (opCells kd key n y)] w (DoPost Ar m w0 w g d s r Y Q bp O S bv) := by
  obtain ⟨Y', code, hb2, hs, hr⟩ := abort_both (w0 := w0) (g := g) (d := d) (s := s) (r := r) (Q := Q) (bp := bp) (bv := bv) hY h0 hm
  have HS := Lib.hid hs
  have HR := Lib.hid hr
  have HH := Lib.hid h
  have HB2Y := Lib.hid hb2
  have hA : Below w.heap.size w ((w.alloc (.cells (opCells kd key n y) 29)).drewN 1) := ((Below.refl _ w).alloc (Nat.le_refl _) _).drewN_ 1
  have hbx : Blk ((w.alloc (.cells (opCells kd key n y) 29)).drewN 1) w.heap.size 29 (opCells kd key n y) := (Blk.new w _ _).drewN 1
  have HBX := Lib.hid hbx
  have HA := Lib.hid hA
  have HB1 := Lib.hid (h.below hA)
  have a1 : ∀ o, (w.alloc o).cell? ⟨g, 1, none⟩ = some (.pointer (some ⟨s, 0, none⟩)) := fun o => (Blk.alloc h.bench o).cell 1
  have a2 : ∀ o, (w.alloc o).cell? ⟨g, 2, none⟩ = some (.pointer (some ⟨r, 0, none⟩)) := fun o => (Blk.alloc h.bench o).cell 2
  clear h hb2 hs hr hY h0 hm hA hbx
  go_enter Tryz.func13, Tryz.ntmps13
  go_wp2
  go_region_held3 (fun w' => w'.cell? ⟨g, 1, none⟩ = some (.pointer (some ⟨s, 0, none⟩)) ∧ w'.cell? ⟨g, 2, none⟩ = some (.pointer (some ⟨r, 0, none⟩))) (go_keep)
    ((first
      | (go_at_call 56; refine (HR.out _ _ _ _ HB2.out).mono ?_; rintro e w3 ⟨rfl, S', hB3, hS', hk3⟩; have HB3 := Lib.hid hB3; have HS3 := Lib.hid hS'; have HK3 := Lib.hid hk3; have i1 := (Blk.cell hB3.bench 1 : w3.cell? ⟨g, 1, none⟩ = some (.pointer (some ⟨s, 0, none⟩))); have i2 := (Blk.cell hB3.bench 2 : w3.cell? ⟨g, 2, none⟩ = some (.pointer (some ⟨r, 0, none⟩))); clear hB3 hS' hk3)
      | (go_at_call 55; have hB1 := HB1.out; refine (HS.out _ _ _ _ hB1).mono ?_; rintro e w2 ⟨rfl, O', hB2, hO', hk2⟩; have HB2 := Lib.hid hB2; have HO2 := Lib.hid hO'; have HK2 := Lib.hid hk2; have e1 := (Blk.cell hB2.bench 1 : w2.cell? ⟨g, 1, none⟩ = some (.pointer (some ⟨s, 0, none⟩))); have e2 := (Blk.cell hB2.bench 2 : w2.cell? ⟨g, 2, none⟩ = some (.pointer (some ⟨r, 0, none⟩))); clear hB2 hO' hk2 hB1)))
  all_goals
    go_wp2
    go_ret
    simp only [                ]
    exact DoPost.two HH.out HB2Y.out HA.out HK2.out HO2.out HK3.out HS3.out HB3.out
set_option maxRecDepth 100000 in
set_option maxHeartbeats 4000000 in
theorem do_delete (h : Bn w0 w g d s r Y.sto Q Y.ref bp O S bv) (hY : Ok m Y) (h0 : Quiet Ar Y.disk Y.now.st) (hm : m + 1 ≤ 100) (kd : Nat) (key : ByteArray) (n y : Nat) (hks : key.size ≤ maxLen) (hkd : (kd : Int) % 9 = 2) :
    Calls Tryz.prog 13 #[.pointer (some ⟨g, 0, none⟩), .agg (opCells kd key n y)] w (DoPost Ar m w0 w g d s r Y Q bp O S bv) := by
  obtain ⟨Y', code, hb2, hs, hr⟩ := delete_both (w0 := w0) (g := g) (d := d) (s := s) (r := r) (Q := Q) (bp := bp) (bv := bv) hY h0 hm key hks
  have HS := Lib.hid hs
  have HR := Lib.hid hr
  have HH := Lib.hid h
  have HB2Y := Lib.hid hb2
  have hA : Below w.heap.size w ((w.alloc (.cells (opCells kd key n y) 29)).drewN 1) := ((Below.refl _ w).alloc (Nat.le_refl _) _).drewN_ 1
  have hbx : Blk ((w.alloc (.cells (opCells kd key n y) 29)).drewN 1) w.heap.size 29 (opCells kd key n y) := (Blk.new w _ _).drewN 1
  have HBX := Lib.hid hbx
  have HA := Lib.hid hA
  have HB1 := Lib.hid (h.below hA)
  have a1 : ∀ o, (w.alloc o).cell? ⟨g, 1, none⟩ = some (.pointer (some ⟨s, 0, none⟩)) := fun o => (Blk.alloc h.bench o).cell 1
  have a2 : ∀ o, (w.alloc o).cell? ⟨g, 2, none⟩ = some (.pointer (some ⟨r, 0, none⟩)) := fun o => (Blk.alloc h.bench o).cell 2
  clear h hb2 hs hr hY h0 hm hA hbx
  go_enter Tryz.func13, Tryz.ntmps13
  go_wp2
  go_region_held3 (fun w' => w'.cell? ⟨g, 1, none⟩ = some (.pointer (some ⟨s, 0, none⟩)) ∧ w'.cell? ⟨g, 2, none⟩ = some (.pointer (some ⟨r, 0, none⟩)) ∧ w'.cell? ⟨w.heap.size, 1, none⟩ = some (.string key)) (go_keep)
    ((first
      | (go_at_call 54; refine (HR.out _ _ _ _ HB2.out).mono ?_; rintro e w3 ⟨rfl, S', hB3, hS', hk3⟩; have HB3 := Lib.hid hB3; have HS3 := Lib.hid hS'; have HK3 := Lib.hid hk3; have i1 := (Blk.cell hB3.bench 1 : w3.cell? ⟨g, 1, none⟩ = some (.pointer (some ⟨s, 0, none⟩))); have i2 := (Blk.cell hB3.bench 2 : w3.cell? ⟨g, 2, none⟩ = some (.pointer (some ⟨r, 0, none⟩))); have b3 := Blk.keeps HBX2.out hk3 fun e => (HB2.out.foot_no _ (.inr (.inr (.inr e))) _ _ HBX2.out).2.1 rfl; have b5 : w3.cell? ⟨w.heap.size, 1, none⟩ = some (.string key) := b3.cell 1; clear b3; clear hB3 hS' hk3)
      | (go_at_call 53; have hB1 := HB1.out; refine (HS.out _ _ _ _ hB1).mono ?_; rintro e w2 ⟨rfl, O', hB2, hO', hk2⟩; have HB2 := Lib.hid hB2; have HO2 := Lib.hid hO'; have HK2 := Lib.hid hk2; have e1 := (Blk.cell hB2.bench 1 : w2.cell? ⟨g, 1, none⟩ = some (.pointer (some ⟨s, 0, none⟩))); have e2 := (Blk.cell hB2.bench 2 : w2.cell? ⟨g, 2, none⟩ = some (.pointer (some ⟨r, 0, none⟩))); have b2 := Blk.keeps HBX.out hk2 fun e => (hB1.foot_no _ (.inr (.inr (.inl e))) _ _ HBX.out).2.1 rfl; have HBX2 := Lib.hid b2; have b4 : w2.cell? ⟨w.heap.size, 1, none⟩ = some (.string key) := b2.cell 1; clear b2; clear hB2 hO' hk2 hB1)))
  all_goals
    go_wp2
    go_ret
    simp only [                ]
    exact DoPost.two HH.out HB2Y.out HA.out HK2.out HO2.out HK3.out HS3.out HB3.out
set_option maxRecDepth 100000 in
set_option maxHeartbeats 4000000 in
theorem do_put (h : Bn w0 w g d s r Y.sto Q Y.ref bp O S bv) (hY : Ok m Y) (h0 : Quiet Ar Y.disk Y.now.st) (hm : m + 1 ≤ 100) (kd : Nat) (key : ByteArray) (n y : Nat) (hn : n ≤ 65535) (hy : y ≤ 255) (hkd : (kd : Int) % 9 = 1) :
    Calls Tryz.prog 13 #[.pointer (some ⟨g, 0, none⟩), .agg (opCells kd key n y)] w (DoPost Ar m w0 w g d s r Y Q bp O S bv) := by
  obtain ⟨Y', code, hb2, hs, hr⟩ := put_both (w0 := w0) (g := g) (d := d) (s := s) (r := r) (Q := Q) (bp := bp) (bv := bv) hY h0 hm key (valueOf n y) (by rw [valueOf_length]; omega)
  have HS := Lib.hid hs
  have HR := Lib.hid hr
  have HH := Lib.hid h
  have HB2Y := Lib.hid hb2
  have hA : Below w.heap.size w (w.alloc (.cells (opCells kd key n y) 29)) := (Below.refl _ w).alloc (Nat.le_refl _) _
  have hbx : Blk (w.alloc (.cells (opCells kd key n y) 29)) w.heap.size 29 (opCells kd key n y) := Blk.new w _ _
  have HBX0 := Lib.hid hbx
  have HA0 := Lib.hid hA
  have a1 : ∀ o, (w.alloc o).cell? ⟨g, 1, none⟩ = some (.pointer (some ⟨s, 0, none⟩)) := fun o => (Blk.alloc h.bench o).cell 1
  have a2 : ∀ o, (w.alloc o).cell? ⟨g, 2, none⟩ = some (.pointer (some ⟨r, 0, none⟩)) := fun o => (Blk.alloc h.bench o).cell 2
  clear h hb2 hs hr hY h0 hm hA hbx
  go_enter Tryz.func13, Tryz.ntmps13
  go_wp2_with (go_at_call 51; refine (value_calls _ _ key n y hn hy).mono ?_; rintro e w1 ⟨v, rfl, hv, hb1⟩; have hbw : Below w.heap.size w (w1.drewN 1) := (HA0.out.trans (hb1.mono (by simp))).drewN_ 1; have HA := Lib.hid hbw; have HB1 := Lib.hid (HH.out.below hbw); have hbx := Blk.drewN (HBX0.out.below hb1 HBX0.out.lt) 1; have HBX := Lib.hid hbx; obtain ⟨gv, cv, curv, rfl, _, _, _, _⟩ := hv.cells; have HV := Lib.hid (hv.below_ ((Below.refl _ w1).drewN_ 1)); have c1 : w1.cell? ⟨g, 1, none⟩ = some (.pointer (some ⟨s, 0, none⟩)) := Blk.cell HB1.out.bench 1; have c2 : w1.cell? ⟨g, 2, none⟩ = some (.pointer (some ⟨r, 0, none⟩)) := Blk.cell HB1.out.bench 2; have b1 : w1.cell? ⟨w.heap.size, 1, none⟩ = some (.string key) := hbx.cell 1; clear hbw hbx hv hb1)
  go_region_held3 (fun w' => w'.cell? ⟨g, 1, none⟩ = some (.pointer (some ⟨s, 0, none⟩)) ∧ w'.cell? ⟨g, 2, none⟩ = some (.pointer (some ⟨r, 0, none⟩)) ∧ w'.cell? ⟨w.heap.size, 1, none⟩ = some (.string key)) (go_keep)
    ((first
      | (go_at_call 52; refine (HR.out _ _ _ _ _ _ HV2.out HB2.out).mono ?_; rintro e w3 ⟨rfl, S', hB3, hS', hk3⟩; have HB3 := Lib.hid hB3; have HS3 := Lib.hid hS'; have HK3 := Lib.hid hk3; have i1 := (Blk.cell hB3.bench 1 : w3.cell? ⟨g, 1, none⟩ = some (.pointer (some ⟨s, 0, none⟩))); have i2 := (Blk.cell hB3.bench 2 : w3.cell? ⟨g, 2, none⟩ = some (.pointer (some ⟨r, 0, none⟩))); have b3 := Blk.keeps HBX2.out hk3 fun e => (HB2.out.foot_no _ (.inr (.inr (.inr e))) _ _ HBX2.out).2.1 rfl; have b5 : w3.cell? ⟨w.heap.size, 1, none⟩ = some (.string key) := b3.cell 1; clear b3; clear hB3 hS' hk3)
      | (go_at_call 49; have hB1 := HB1.out; refine (HS.out _ _ _ _ _ _ HV.out hB1).mono ?_; rintro e w2 ⟨rfl, O', hB2, hO', hk2⟩; have HB2 := Lib.hid hB2; have HO2 := Lib.hid hO'; have HK2 := Lib.hid hk2; have e1 := (Blk.cell hB2.bench 1 : w2.cell? ⟨g, 1, none⟩ = some (.pointer (some ⟨s, 0, none⟩))); have e2 := (Blk.cell hB2.bench 2 : w2.cell? ⟨g, 2, none⟩ = some (.pointer (some ⟨r, 0, none⟩))); have b2 := Blk.keeps HBX.out hk2 fun e => (hB1.foot_no _ (.inr (.inr (.inl e))) _ _ HBX.out).2.1 rfl; have HBX2 := Lib.hid b2; have HV2 := Lib.hid (HV.out.keeps hk2 fun q cs hq _ hb => (hB1.foot_no _ (.inr (.inr (.inl hq))) _ _ hb).2.2.1 rfl); have b4 : w2.cell? ⟨w.heap.size, 1, none⟩ = some (.string key) := b2.cell 1; clear b2; clear hB2 hO' hk2 hB1)))
  all_goals
    go_wp2
    go_ret
    simp only [                ]
    exact DoPost.two HH.out HB2Y.out HA.out HK2.out HO2.out HK3.out HS3.out HB3.out
end

end Go.Proofs.YtbgiklkpinflaaaGreat

namespace Go.Proofs.YtbgiklkpinflaaaGreat
open Go.RowKit Go.Shelf Go.Maps
attribute [local go_sem ↓] Go.wp_at_zero Go.wp_at_succ

theorem StoN.lt_ {P : Nat → Prop} {w : World} {s d : Nat} {X : Sto} {Q : List PinPlace} {O : List Nat} (h : StoN P w s d X Q O) : ∀ k ∈ O, k < w.heap.size := by
  obtain ⟨Sd, T, a, mb, pv, nv, gv, h1, rfl⟩ := h
  intro k hk
  simp only [List.mem_cons, List.mem_append, Option.mem_toList] at hk
  rcases hk with rfl | hk | hk | hk
  · exact h1.hs.lt
  · obtain ⟨t, cs, hb, _⟩ := h1.disk.lt k hk
    exact hb.lt
  · obtain ⟨M, hm⟩ := h1.trans.maps hk
    exact hm.lt
  · obtain ⟨cs, hb⟩ := own_is_blk h1.hpins.own hk
    exact hb.lt
theorem conv_gotR {w : World} {v : Value} {l : List UInt8} (h : (v = .slice none 0 0 ∧ l = []) ∨ BytesAt Any w v l) : (convert 89 9 v).run Tryz.prog w = .ok (.string ⟨l.toArray⟩) w := by
  rcases h with ⟨rfl, rfl⟩ | h
  · exact run_convert_bytes_nil (P := Tryz.prog) w 89 5 Tryz.underlying89 Tryz.underlying5 0 0 9 Tryz.underlying9
  · exact conv_bytes h
theorem gotR_slice {w : World} {v : Value} {l : List UInt8} (h : (v = .slice none 0 0 ∧ l = []) ∨ BytesAt Any w v l) : ∃ A c, v = .slice A l.length c := by
  rcases h with ⟨rfl, rfl⟩ | h
  · exact ⟨none, 0, rfl⟩
  · obtain ⟨g, c, cur, rfl, _⟩ := h.cells
    exact ⟨_, _, rfl⟩
section
variable {Ar : Nat → Prop} {m : Nat} {w0 w w' w2 w3 : World} {g d s r : Nat} {X : Sto} {R : RSto} {Y Y' : Joint} {Q : List PinPlace} {bp O O' S S' : List Nat} {bv : Value}
theorem DoPost.same (h : Bn w0 w g d s r Y.sto Q Y.ref bp O S bv) (hY : Ok m Y) (h0 : Quiet Ar Y.disk Y.now.st) (hm : m + 1 ≤ 100) (hb : Below w.heap.size w w') : DoPost Ar m w0 w g d s r Y Q bp O S bv (.returned (.bool true)) w' :=
  ⟨rfl, Y, Q, bp, O, S, bv, h.below hb, hY.mono (Nat.le_succ m) hm, h0, rfl, .inl rfl, List.prefix_refl _, fun _ h => .inl h, Keeps.of_below hb, fun hp => hp.keeps (F := fun _ => False) (Keeps.of_below hb) fun _ h => h.elim⟩
set_option maxRecDepth 100000 in
set_option maxHeartbeats 4000000 in
theorem do_get (h : Bn w0 w g d s r Y.sto Q Y.ref bp O S bv) (hY : Ok m Y) (h0 : Quiet Ar Y.disk Y.now.st) (hm : m + 1 ≤ 100) (kd : Nat) (key : ByteArray) (n y : Nat) (hks : key.size ≤ maxLen) (hkd : (kd : Int) % 9 = 5) :
    Calls Tryz.prog 13 #[.pointer (some ⟨g, 0, none⟩), .agg (opCells kd key n y)] w (DoPost Ar m w0 w g d s r Y Q bp O S bv) := by
  have hpen : Y.sto.disk.pending.length ≤ 1000000000 := by
    show Y.disk.pending.length ≤ 1000000000
    rw [hY.pend]
    exact Nat.zero_le _
  have hget := hY.get key
  have hnow := hY.refOk.now
  obtain ⟨nv, xv, pv, qs, hrp, _⟩ := h.ref
  obtain ⟨An, cn, rfl⟩ := hrp.now.slice
  obtain ⟨⟨code, l⟩, hp⟩ : ∃ p, p = getR Y.ref.now key := ⟨_, rfl⟩
  rw [← hp] at hget
  have HG : Hid (∀ wx, Below w.heap.size w wx → Calls Tryz.prog 50 #[.pointer (some ⟨s, 0, none⟩), .string key] wx (FetchPost wx (code, l))) := fun wx hb => by
    have := sto_get (h.sto.a_.below hb) hY.stNow hpen key hks
    rw [show getOf Y.sto.life Y.sto.disk Y.sto.now.places key.data.toList = (code, l) from hget] at this
    exact this
  obtain ⟨gen, hgen⟩ : ∃ gen, gen = Y.ref.now.gen := ⟨_, rfl⟩
  obtain ⟨ne, hne⟩ : ∃ ne, ne = Y.ref.now.ents.length := ⟨_, rfl⟩
  have HR : Hid (∀ wx, Below w.heap.size w wx → Calls Tryz.prog 57 #[.agg #[.int .i64 (gen : Int), .slice An ne cn], .string key] wx (GotR wx (code, l))) := fun wx hb => by
    have := getR_calls (t := Y.ref.now) (hrp.now.below hb) key hnow
    rw [← hp] at this
    rw [hgen, hne]
    exact this
  have hbx : Blk (w.alloc (.cells (opCells kd key n y) 29)) w.heap.size 29 (opCells kd key n y) := Blk.new w _ _
  have HC : Hid (∀ wx, Below (w.heap.size + 1) (w.alloc (.cells (opCells kd key n y) 29)) wx → Below w.heap.size w wx ∧ wx.cell? ⟨w.heap.size, 1, none⟩ = some (.string key) ∧ wx.cell? ⟨g, 1, none⟩ = some (.pointer (some ⟨s, 0, none⟩)) ∧ wx.cell? ⟨g, 2, none⟩ = some (.pointer (some ⟨r, 0, none⟩)) ∧ wx.cell? ⟨r, 1, none⟩ = some (.int .i64 (gen : Int)) ∧ wx.cell? ⟨r, 2, none⟩ = some (.slice An ne cn)) := fun wx hb => by
    have hw : Below w.heap.size w wx := ((Below.refl _ w).alloc (Nat.le_refl _) _).trans (hb.mono (by omega))
    have hb1 := Blk.below h.bench hw (Blk.lt h.bench)
    have hb2 := hrp.blk.below hw hrp.blk.lt
    have hb3 := hbx.below hb (by simp)
    rw [hgen, hne]
    exact ⟨hw, hb3.cell 1, hb1.cell 1, hb1.cell 2, hb2.cell 1, hb2.cell 2⟩
  have H1 : Hid (Below (w.heap.size + 1) (w.alloc (.cells (opCells kd key n y) 29)) (w.alloc (.cells (opCells kd key n y) 29))) := Below.refl _ _
  obtain ⟨_, b1, a1, a2, a3, a4⟩ := HC.out _ H1.out
  have HH := Lib.hid h
  have HY := Lib.hid hY
  have H0 := Lib.hid h0
  have HM := Lib.hid hm
  clear h hY h0 hm hpen hget hnow hrp hp hgen hne hbx b1 a1 a2 a3 a4
  obtain ⟨_, b1, a1, a2, a3, a4⟩ := HC.out _ H1.out
  go_enter Tryz.func13, Tryz.ntmps13
  go_wp2
  go_region_held3 (fun w' => w'.cell? ⟨g, 1, none⟩ = some (.pointer (some ⟨s, 0, none⟩)) ∧ w'.cell? ⟨w.heap.size, 1, none⟩ = some (.string key)) (go_keep)
    ((go_at_call 50; refine (HG.out _ (HC.out _ (H1.out.drewN_ 1)).1).mono ?_; rintro e w2 ⟨v2, rfl, hg2, hb2⟩; obtain ⟨A2, c2, rfl⟩ := got_slice hg2; have H2 : Hid (Below (w.heap.size + 1) (w.alloc (.cells (opCells kd key n y) 29)) w2) := (H1.out.drewN_ 1).trans (hb2.mono (by simp)); have HG2 := Lib.hid hg2; obtain ⟨_, c1, d1, d2, d3, d4⟩ := HC.out _ H2.out; clear hb2 hg2))
  all_goals
    go_wp2
    go_region_held3 (fun w' => w'.cell? ⟨g, 2, none⟩ = some (.pointer (some ⟨r, 0, none⟩)) ∧ w'.cell? ⟨r, 1, none⟩ = some (.int .i64 (gen : Int)) ∧ w'.cell? ⟨r, 2, none⟩ = some (.slice An ne cn) ∧ w'.cell? ⟨w.heap.size, 1, none⟩ = some (.string key)) (go_keep)
      ((go_at_call 57; refine (HR.out _ (HC.out _ (H2.out.drewN_ 1)).1).mono ?_; rintro e w3 ⟨v3, rfl, hg3, hb3⟩; obtain ⟨A3, c3, rfl⟩ := gotR_slice hg3; have H3 : Hid (Below (w.heap.size + 1) (w.alloc (.cells (opCells kd key n y) 29)) w3) := (H2.out.drewN_ 1).trans (hb3.mono (by have := H2.out.size; simp at this ⊢; omega)); have HG3 := Lib.hid hg3; have HB3 := Lib.hid hb3; obtain ⟨_, f1, e1, e2, e3, e4⟩ := HC.out _ H3.out; clear hb3 hg3))
    all_goals
      have HB23 : Hid (Below w2.heap.size w2 w3) := (((Below.refl _ w2).drewN_ 1).trans HB3.out)
      go_wp2_with (go_at_call 58; refine (same_calls (l := l) (conv_got (HG2.out.imp id fun h => h.below_ HB23.out)) (conv_gotR HG3.out)).mono ?_; rintro e w4 ⟨rfl, hb4⟩; have H4 : Hid (Below (w.heap.size + 1) (w.alloc (.cells (opCells kd key n y) 29)) w4) := H3.out.trans (hb4.mono (by have := H3.out.size; simp at this ⊢; omega)); clear hb4)
      go_ret
      exact DoPost.same HH.out HY.out H0.out HM.out (HC.out _ H4.out).1

/-- One more snapshot. -/
theorem Bn.push (h : Bn w0 w g d s r X Q R bp O S bv) {w2 w3 : World} (hB : Below w.heap.size w w2) {p : Nat} {sv3 : Value} (hown : w3.ownsRow w0.heap.size 31 1 sv3 (bp.length + 1) (bptrs bp ++ [.pointer (some ⟨p, 0, none⟩)])) (hgrow : w2.grownBy w3 bv.ownBlock)
    (hat : sv3.ownBlock = bv.ownBlock ∨ ∃ q, sv3.ownBlock = some q ∧ w2.heap.size ≤ q) :
    Bn w0 (w3.setCell ⟨g, 3, none⟩ sv3) g d s r X Q R (bp ++ [p]) O S sv3 ∧ Keeps (fun k => k = g ∨ bv.ownBlock = some k) w (w3.setCell ⟨g, 3, none⟩ sv3) := by
  have hso : bv.ownBlock ≠ some g := own_blk_ne h.row h.bench (by decide)
  have k : Keeps (fun q => q = g ∨ bv.ownBlock = some q) w (w3.setCell ⟨g, 3, none⟩ sv3) :=
    ((Keeps.of_below (F := fun q => q = g ∨ bv.ownBlock = some q) hB).grown hgrow (fun q hr _ => .inr hr)).setCell (p := ⟨g, 3, none⟩) (fun _ => .inl rfl) sv3
  have hT : ∀ q, (q = g ∨ bv.ownBlock = some q) → ∃ t cs, Blk w q t cs ∧ (t = 39 ∨ t = 31) := fun q hq => by
    rcases hq with rfl | hq
    · exact ⟨_, _, h.bench, .inl rfl⟩
    · obtain ⟨cs, hb⟩ := own_is_blk h.row hq
      exact ⟨_, cs, hb, .inr rfl⟩
  have hT2 : ∀ q t cs, (q = g ∨ bv.ownBlock = some q) → Blk w q t cs → t = 39 ∨ t = 31 := fun q t cs hq hb => by
    obtain ⟨t', cs', hb', ht⟩ := hT q hq
    rw [(hb.det hb').2]
    exact ht
  have hnew : ∀ q, (q = g ∨ bv.ownBlock = some q) → w0.heap.size ≤ q := fun q hq => by
    rcases hq with rfl | hq
    · exact h.newg
    · exact own_base h.row hq
  have hg3 : Blk w3 g 39 _ := (Blk.below h.bench hB (Blk.lt h.bench)).grown hgrow hso
  have hso3 : sv3.ownBlock ≠ some g := by
    rcases hat with e | ⟨q, e, hq⟩
    · rw [e]; exact hso
    · rw [e]
      intro e2
      have e3 : q = g := by simpa using e2
      have := Blk.lt h.bench
      have := hB.size
      omega
  refine ⟨⟨Nat.le_trans h.size k.size, below_keeps h.kept k h.size hnew, h.sto.keeps k fun q hq => ?_, h.nod, fun q hq => ⟨(h.qs q hq).1, Nat.lt_of_lt_of_le (h.qs q hq).2 k.size⟩, h.ref.keeps k (fun q hq e => ?_) (fun q t cs hq hb => ?_), hg3.set_ 3 sv3, ?_, ?_, h.newO, h.newS, h.newg⟩, k⟩
  · obtain ⟨t, cs, hb, ht⟩ := hT q hq
    refine ⟨fun e => ?_, t, cs, hb, ?_⟩
    · rcases hq with rfl | hq
      · rcases h.ltO _ e _ _ h.bench with e | e | e | e | e
        all_goals exact absurd e (by decide)
      · exact h.apart q hq e
    · rcases ht with rfl | rfl
      · exact ⟨by decide, by decide, by decide, fun e => absurd e (by decide)⟩
      · exact ⟨by decide, by decide, by decide, fun e => absurd e (by decide)⟩
  · obtain ⟨t, cs, hb, ht⟩ := hT q hq
    obtain ⟨t', cs', hb', ht'⟩ := h.ref.own q e
    have hd := (hb.det hb').2
    rw [hd] at ht
    rcases ht with rfl | rfl
    · rcases ht' with e | e
      all_goals exact absurd e (by decide)
    · rcases ht' with e | e
      all_goals exact absurd e (by decide)
  · rcases hT2 q t cs hq hb with rfl | rfl
    all_goals exact ⟨by decide, by decide⟩
  · have := ownsRow_keeps hown (Keeps.set1 w3 g 3 sv3) (fun q hq e => hso3 (by rw [hq, e]))
    rw [List.length_append]
    unfold bptrs at this ⊢
    rw [List.map_append]
    exact this
  · intro q hq e
    rcases hat with e2 | ⟨q', e2, hq'⟩
    · rw [e2] at hq
      exact h.apart q hq e
    · rw [e2] at hq
      have e3 : q' = q := by simpa using hq
      have := h.sto.lt_ q e
      have := hB.size
      omega
end

end Go.Proofs.YtbgiklkpinflaaaGreat

namespace Go.Proofs.YtbgiklkpinflaaaGreat
open Go.RowKit Go.Shelf Go.Maps
attribute [local go_sem ↓] Go.wp_at_zero Go.wp_at_succ

theorem heldTo_pinsR (pins : List (JSt × Bool)) (i : Nat) : heldTo (pinsR pins) i = heldTo pins i := by
  unfold heldTo pinsR
  rw [← List.map_take, List.filter_map, List.length_map]
  rfl
theorem heldTo_all {α : Type} (l : List (α × Bool)) : heldTo l l.length = (l.filter (·.2)).length := by
  unfold heldTo
  rw [List.take_length]
theorem held_len (Y : Joint) : heldTo Y.ref.pins Y.ref.pins.length = Y.sto.pins.length := by
  show heldTo (pinsR Y.pins) (pinsR Y.pins).length = ((heldJ Y.pins).map JSt.st).length
  have e : (pinsR Y.pins).length = Y.pins.length := by unfold pinsR; rw [List.length_map]
  rw [heldTo_pinsR, e, heldTo_all]
  unfold heldJ
  rw [List.length_map, List.length_map]
theorem heldTo_append {α : Type} (l r : List (α × Bool)) {i : Nat} (h : i ≤ l.length) : heldTo (l ++ r) i = heldTo l i := by
  unfold heldTo
  rw [List.take_append_of_le_length h]
theorem PinsRel.push {w : World} {pins : List (JSt × Bool)} {Q : List PinPlace} {bp : List Nat} (h : PinsRel w pins Q bp) (J : JSt) (q : PinPlace) (hQ : Q.length = heldTo pins pins.length) : PinsRel w (pins ++ [(J, true)]) (Q ++ [q]) (bp ++ [q.1]) := by
  have hl := h.len
  refine ⟨by simp [hl], fun i p J' hp hJ => ?_, fun i p J' hp hJ => ?_⟩
  · rcases Nat.lt_or_ge i pins.length with hi | hi
    · rw [List.getElem?_append_left hi] at hJ
      rw [List.getElem?_append_left (by omega)] at hp
      obtain ⟨q', hq, e⟩ := h.held i p J' hp hJ
      refine ⟨q', ?_, e⟩
      rw [heldTo_append _ _ (by omega), List.getElem?_append_left (List.getElem?_eq_some_iff.1 hq).1]
      exact hq
    · have hi0 : i = pins.length := by
        have := (List.getElem?_eq_some_iff.1 hJ).1
        simp at this
        omega
      subst hi0
      rw [← hl, List.getElem?_append_right (Nat.le_refl _), Nat.sub_self] at hp
      have hp : q.1 = p := by simpa using hp
      refine ⟨q, ?_, hp⟩
      rw [heldTo_append _ _ (Nat.le_refl _), ← hQ, List.getElem?_append_right (Nat.le_refl _), Nat.sub_self]
      rfl
  · rcases Nat.lt_or_ge i pins.length with hi | hi
    · rw [List.getElem?_append_left hi] at hJ
      rw [List.getElem?_append_left (by omega)] at hp
      exact h.off i p J' hp hJ
    · rw [List.getElem?_append_right hi] at hJ
      have : (i - pins.length) = 0 := by
        have := (List.getElem?_eq_some_iff.1 hJ).1
        simp at this
        omega
      rw [this] at hJ
      simp at hJ
theorem Bn.snap_ {w0 w w' : World} {g d s r : Nat} {X X' : Sto} {R : RSto} {Q : List PinPlace} {bp O S : List Nat} {bv : Value} {p a mb : Nat} {st : St} (h : Bn w0 w g d s r X Q R bp O S bv) (hs : SnapAt w' p s a mb st) (hn : w.heap.size ≤ p) (hp : StoNPost (w0.heap.size ≤ ·) w s d X' (Q ++ [(p, a, mb)]) O w') :
    ∃ O', Bn w0 w' g d s r X' (Q ++ [(p, a, mb)]) R bp O' S bv ∧ (∀ k ∈ O', k ∈ O ∨ w.heap.size ≤ k) ∧ Keeps (· ∈ O) w w' := by
  have hsz : w.heap.size ≤ w'.heap.size := by
    obtain ⟨_, _, _, k⟩ := hp
    exact k.size
  refine h.sto_step hp ?_ fun q hq => ?_
  · rw [List.map_append, List.nodup_append]
    refine ⟨h.nod, by simp, fun x hx y hy e => ?_⟩
    obtain ⟨q, hq, rfl⟩ := List.mem_map.1 hx
    have hy : y = p := by simpa using hy
    have := (h.qs q hq).2
    omega
  · rcases List.mem_append.1 hq with hq | hq
    · exact ⟨(h.qs q hq).1, Nat.lt_of_lt_of_le (h.qs q hq).2 hsz⟩
    · have hq : q = (p, a, mb) := by simpa using hq
      subst hq
      exact ⟨Nat.le_trans h.size hn, hs.1.lt⟩
section
variable {Ar : Nat → Prop} {m : Nat} {w0 w : World} {g d s r : Nat} {Y : Joint} {Q : List PinPlace} {bp O S : List Nat} {bv : Value}
set_option maxRecDepth 100000 in
set_option maxHeartbeats 4000000 in
theorem do_snap_full (h : Bn w0 w g d s r Y.sto Q Y.ref bp O S bv) (hY : Ok m Y) (h0 : Quiet Ar Y.disk Y.now.st) (hm : m + 1 ≤ 100) (hfull : 16 ≤ Y.sto.pins.length) (kd : Nat) (key : ByteArray) (n y : Nat) (hkd : (kd : Int) % 9 = 6) :
    Calls Tryz.prog 13 #[.pointer (some ⟨g, 0, none⟩), .agg (opCells kd key n y)] w (DoPost Ar m w0 w g d s r Y Q bp O S bv) := by
  have HS : Hid (∀ wx, Below w.heap.size w wx → Calls Tryz.prog 14 #[.pointer (some ⟨s, 0, none⟩)] wx fun e w' => e = .returned (.tuple #[.pointer none, .int .i64 4]) ∧ Below wx.heap.size wx w') := fun wx hb => sto_snapshot_full (h.sto.a_.below hb) hY.alive hfull hY.few_pins
  have HR : Hid (∀ wx, Below w.heap.size w wx → Calls Tryz.prog 15 #[.pointer (some ⟨r, 0, none⟩)] wx fun e w' => e = .returned (.tuple #[.int .i64 0, .int .i64 4]) ∧ Below wx.heap.size wx w') := fun wx hb => (ref_snapshot (h.ref.below hb) hY.refOk.pins).mono fun e w' hr => hr.1 (by rw [held_len]; exact hfull)
  have HC : Hid (∀ wx, Below w.heap.size w wx → wx.cell? ⟨g, 1, none⟩ = some (.pointer (some ⟨s, 0, none⟩)) ∧ wx.cell? ⟨g, 2, none⟩ = some (.pointer (some ⟨r, 0, none⟩))) := fun wx hb => ⟨(Blk.below h.bench hb (Blk.lt h.bench)).cell 1, (Blk.below h.bench hb (Blk.lt h.bench)).cell 2⟩
  have H1 : Hid (Below w.heap.size w (w.alloc (.cells (opCells kd key n y) 29))) := (Below.refl _ w).alloc (Nat.le_refl _) _
  obtain ⟨a1, a2⟩ := HC.out _ H1.out
  have HH := Lib.hid h
  have HY := Lib.hid hY
  have H0 := Lib.hid h0
  have HM := Lib.hid hm
  clear h hY h0 hm hfull
  go_enter Tryz.func13, Tryz.ntmps13
  go_wp2_with (first
    | (go_at_call 14; refine (HS.out _ H1.out).mono ?_; rintro e w2 ⟨rfl, hb2⟩; have H2 : Hid (Below w.heap.size w w2) := H1.out.trans (hb2.mono H1.out.size); obtain ⟨c1, c2⟩ := HC.out _ H2.out; clear hb2)
    | (go_at_call 15; refine (HR.out _ H2.out).mono ?_; rintro e w3 ⟨rfl, hb3⟩; have H3 : Hid (Below w.heap.size w w3) := H2.out.trans (hb3.mono H2.out.size); clear hb3))
  go_ret
  exact DoPost.same HH.out HY.out H0.out HM.out H3.out
set_option maxRecDepth 100000 in
set_option maxHeartbeats 4000000 in
theorem do_snap (h : Bn w0 w g d s r Y.sto Q Y.ref bp O S bv) (hY : Ok m Y) (h0 : Quiet Ar Y.disk Y.now.st) (hm : m + 1 ≤ 100) (hbp : bp.length ≤ 1000) (hfew : Y.sto.pins.length < 16) (kd : Nat) (key : ByteArray) (n y : Nat) (hkd : (kd : Int) % 9 = 6) :
    Calls Tryz.prog 13 #[.pointer (some ⟨g, 0, none⟩), .agg (opCells kd key n y)] w (DoPost Ar m w0 w g d s r Y Q bp O S bv) := by
  have HS : Hid (∀ wx, Bn w0 wx g d s r Y.sto Q Y.ref bp O S bv → Calls Tryz.prog 14 #[.pointer (some ⟨s, 0, none⟩)] wx fun e w' => ∃ p a mb, e = .returned (.tuple #[.pointer (some ⟨p, 0, none⟩), .int .i64 0]) ∧ ∃ O', Bn w0 w' g d s r Y.snap.sto (Q ++ [(p, a, mb)]) Y.ref bp O' S bv ∧ (∀ k ∈ O', k ∈ O ∨ wx.heap.size ≤ k) ∧ Keeps (· ∈ O) wx w') := fun wx hb => by
    refine (ston_snapshot hb.sto hY.alive hfew).mono ?_
    rintro e w' ⟨p, a, mb, e1, e2, e3, e4⟩
    exact ⟨p, a, mb, e1, hb.snap_ e2 e3 (by rw [snap_sto]; exact e4)⟩
  have HR : Hid (∀ wx X' Q' O', Bn w0 wx g d s r X' Q' Y.ref bp O' S bv → Calls Tryz.prog 15 #[.pointer (some ⟨r, 0, none⟩)] wx fun e w' => ∃ i, e = .returned (.tuple #[.int .i64 i, .int .i64 0]) ∧ ∃ S', Bn w0 w' g d s r X' Q' Y.snap.ref bp O' S' bv ∧ (∀ k ∈ S', k ∈ S ∨ wx.heap.size ≤ k) ∧ Keeps (· ∈ S) wx w') := fun wx X' Q' O' hb => by
    refine (ref_snapshot hb.ref hY.refOk.pins).mono fun e w' hr => ?_
    obtain ⟨e1, e2⟩ := hr.2 (by rw [held_len]; exact hfew)
    exact ⟨_, e1, hb.ref_step (by rw [snap_ref]; exact e2)⟩
  have hA : Below w.heap.size w (w.alloc (.cells (opCells kd key n y) 29)) := (Below.refl _ w).alloc (Nat.le_refl _) _
  have HA := Lib.hid hA
  have HB1 := Lib.hid (h.below hA)
  have a1 : ∀ o, (w.alloc o).cell? ⟨g, 1, none⟩ = some (.pointer (some ⟨s, 0, none⟩)) := fun o => (Blk.alloc h.bench o).cell 1
  have hsn : Ok (m + 1) Y.snap := hY.snap hm
  have HSN := Lib.hid hsn
  have HH := Lib.hid h
  have HQ : Hid (Q.length = heldTo Y.pins Y.pins.length) := by
    show Q.length = _
    rw [h.sto.qlen, ← held_len]
    show heldTo (pinsR Y.pins) (pinsR Y.pins).length = _
    rw [heldTo_pinsR]
    unfold pinsR
    rw [List.length_map]
  have H0 := Lib.hid h0
  have HBP := Lib.hid hbp
  obtain ⟨A, c, rfl, _⟩ := own_slice h.row
  obtain ⟨iw, hiw, hz0, hz1, hz2⟩ := info_parts Tryz.infoSnap
  clear h hY h0 hm hfew hA hsn
  go_enter Tryz.func13, Tryz.ntmps13
  go_wp2_with (first
    | (go_at_call 14; refine (HS.out _ HB1.out).mono ?_; rintro e w2 ⟨p, a, mb, rfl, O', hB2, hO2, hk2⟩; have HB2 := Lib.hid hB2; have HO2 := Lib.hid hO2; have HK2 := Lib.hid hk2; have c1 : w2.cell? ⟨g, 2, none⟩ = some (.pointer (some ⟨r, 0, none⟩)) := Blk.cell hB2.bench 2; clear hB2 hO2 hk2)
    | (go_at_call 15; refine (HR.out _ _ _ _ HB2.out).mono ?_; rintro e w3 ⟨ix, rfl, S', hB3, hS3, hk3⟩; have HB3 := Lib.hid hB3; have HS3 := Lib.hid hS3; have HK3 := Lib.hid hk3; have d3 : w3.cell? ⟨g, 3, none⟩ = some (.slice A bp.length c) := Blk.cell hB3.bench 3; have d3a : ∀ o, (w3.alloc o).cell? ⟨g, 3, none⟩ = some (.slice A bp.length c) := fun o => (Blk.alloc hB3.bench o).cell 3; clear hB3 hS3 hk3)
    | (at_builtin; refine wpList_append_lies _ rfl _ _ 37 rfl w0.heap.size 31 iw (.pointer none) 1 8 Tryz.underlying37 hiw hz0 hz1 hz2 rfl (by decide) _ _ _ rfl (HB3.out.row.alloc _) ⟨w3.heap.size, 0, none⟩ 1 1 [.pointer (some ⟨p, 0, none⟩)] rfl rfl ?c1 ?c2 (by decide) ?c3 ?c4 ?c5 (w3.heap.size + 1) ?c8 ?_))
  case c1 => exact cell_one_new w3 (.pointer (some ⟨p, 0, none⟩)) 31
  case c2 => simp [Value.oneCell']
  case c3 => unfold maxLen; have := HBP.out; omega
  case c4 => have := HBP.out; omega
  case c5 => have := HB3.out.size; simp; omega
  case c8 => simp
  intro gg cap2 w4 hown4 hgrow4 hat4 _
  have B4 := (Blk.alloc HB3.out.bench (.cells #[.pointer (some ⟨p, 0, none⟩)] 31)).grown hgrow4 (own_blk_ne HB3.out.row HB3.out.bench (by decide))
  have q3 := (B4.at1 3 _ rfl).1
  have f3 := B4.frozen 3
  have HOWN := Lib.hid hown4
  have HGR := Lib.hid hgrow4
  have HAT := Lib.hid hat4
  clear hown4 hgrow4 hat4 B4
  go_wp2
  go_ret
  have hp := HB3.out.push (p := p) (sv3 := .slice (some ⟨gg, 0, none⟩) (bp.length + 1) cap2) (((Below.refl _ w3).alloc (Nat.le_refl _) _)) HOWN.out HGR.out (by
    rcases HAT.out with h | h
    · exact .inl (by rw [h]; rfl)
    · exact .inr ⟨gg, rfl, by simp; omega⟩)
  obtain ⟨hB4, hk4⟩ := hp
  have k1 : Keeps (foot g O S (.slice A bp.length c)) w (w.alloc (.cells (opCells kd key n y) 29)) := Keeps.of_below HA.out
  have k2 : Keeps (foot g O S (.slice A bp.length c)) w w2 := k1.trans (HK2.out.weaken fun q _ e => .inr (.inr (.inl e))) fun _ _ h => h
  have k3 : Keeps (foot g O S (.slice A bp.length c)) w w3 := k2.trans (HK3.out.weaken fun q _ e => .inr (.inr (.inr e))) fun _ _ h => h
  have k4 := k3.trans (hk4.weaken fun q _ e => show foot g O S (.slice A bp.length c) q from e.imp id .inl) fun _ _ h => h
  refine ⟨rfl, Y.snap, _, _, O', S', _, hB4, HSN.out, H0.out, rfl, .inr rfl, List.prefix_append _ _, fun q hq => ?_, k4, fun hp => ?_⟩
  · rcases hq with e | e | e | e
    · exact .inl (.inl e)
    · rcases HAT.out with h | h
      · exact .inl (.inr (.inl (h.trans (by simpa [Value.ownBlock] using e))))
      · have e2 : gg = q := by simpa [Value.ownBlock] using e
        have := k3.size
        exact .inr (by omega)
    · rcases HO2.out q e with e | e
      · exact .inl (.inr (.inr (.inl e)))
      · exact .inr (Nat.le_trans k1.size e)
    · rcases HS3.out q e with e | e
      · exact .inl (.inr (.inr (.inr e)))
      · exact .inr (Nat.le_trans k2.size e)
  · exact (hp.keeps k4 fun q hq t cs hb => (HH.out.foot_no q hq t cs hb).1).push Y.now (p, a, mb) HQ.out
end

end Go.Proofs.YtbgiklkpinflaaaGreat
