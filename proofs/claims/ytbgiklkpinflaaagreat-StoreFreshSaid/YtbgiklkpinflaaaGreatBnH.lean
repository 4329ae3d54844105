/- The bench's pin and do, of whatever kind. laid: the bench at its start. The argument: a list of calls for a store. StorePlays: the walk. -/
import Derived.Test.YtbgiklkpinflaaaGreatBn8
import Derived.Deep.Slices
import Derived.Deep.Fields
import Derived.Deep.Grids
import Derived.ChangeSame

namespace Go.Proofs.YtbgiklkpinflaaaGreat
open Go.RowKit Go.Shelf Go.Maps
attribute [local go_sem ↓] Go.wp_at_zero Go.wp_at_succ

theorem heldTo_over {α : Type} {l : List (α × Bool)} {j : Nat} (h : l.length ≤ j) : heldTo l (j + 1) = heldTo l j := by
  unfold heldTo
  rw [List.take_of_length_le h, List.take_of_length_le (by omega)]
theorem heldTo_mono {α : Type} (l : List (α × Bool)) {i j : Nat} (h : i ≤ j) : heldTo l i ≤ heldTo l j := by
  induction j with
  | zero =>
    obtain rfl : i = 0 := by omega
    exact Nat.le_refl _
  | succ j ih =>
    rcases Nat.lt_or_ge i (j + 1) with h1 | h1
    · refine Nat.le_trans (ih (by omega)) ?_
      rcases Nat.lt_or_ge j l.length with h2 | h2
      · rw [heldTo_succ (List.getElem?_eq_getElem h2)]
        exact Nat.le_add_right _ _
      · rw [heldTo_over h2]
        exact Nat.le_refl _
    · obtain rfl : i = j + 1 := by omega
      exact Nat.le_refl _
theorem heldTo_set {α : Type} {l : List (α × Bool)} {i : Nat} {a : α} (h : l[i]? = some (a, true)) : ∀ j, heldTo (l.set i (a, false)) j + (if i < j then 1 else 0) = heldTo l j
  | 0 => by simp [heldTo]
  | j + 1 => by
    have ih := heldTo_set h j
    obtain ⟨hi, _⟩ := List.getElem?_eq_some_iff.1 h
    rcases Nat.lt_or_ge j l.length with hj | hj
    · by_cases e : j = i
      · subst e
        have e1 : (l.set j (a, false))[j]? = some (a, false) := by rw [List.getElem?_set_self hi]
        rw [heldTo_succ e1, heldTo_succ h]
        simp at ih ⊢
        exact ih
      · have e1 : (l.set i (a, false))[j]? = some l[j] := by rw [List.getElem?_set_ne (by omega), List.getElem?_eq_getElem hj]
        rw [heldTo_succ e1, heldTo_succ (List.getElem?_eq_getElem hj)]
        have e2 : (i < j + 1) ↔ (i < j) := by omega
        simp only [e2]
        omega
    · rw [heldTo_over hj, heldTo_over (by simpa using hj), ← ih]
      have e2 : i < j := by omega
      have e3 : i < j + 1 := by omega
      simp only [e2, e3, if_true]
theorem PinsRel.release {w w' : World} {pins : List (JSt × Bool)} {Q : List PinPlace} {bp : List Nat} (h : PinsRel w pins Q bp) {i p : Nat} {J : JSt} (hp : bp[i]? = some p) (hJ : pins[i]? = some (J, true)) (hoff : SnapOff w' p) (hk : ∀ q, SnapOff w q → SnapOff w' q) :
    PinsRel w' (offAt pins i) (Q.eraseIdx (heldTo pins i)) bp := by
  rw [offAt_get hJ]
  change PinsRel w' (pins.set i (J, false)) _ _
  refine ⟨by rw [List.length_set]; exact h.len, fun j p' J' hp' hJ' => ?_, fun j p' J' hp' hJ' => ?_⟩
  · by_cases e : j = i
    · subst e
      rw [List.getElem?_set_self (List.getElem?_eq_some_iff.1 hJ).1] at hJ'
      simp at hJ'
    · rw [List.getElem?_set_ne (by omega)] at hJ'
      obtain ⟨q, hq, hqe⟩ := h.held j p' J' hp' hJ'
      refine ⟨q, ?_, hqe⟩
      have hs := heldTo_set hJ j
      have h1 : heldTo pins (j + 1) = heldTo pins j + 1 := by rw [heldTo_succ hJ']; rfl
      have h2 : heldTo pins (i + 1) = heldTo pins i + 1 := by rw [heldTo_succ hJ]; rfl
      rw [List.getElem?_eraseIdx]
      rcases Nat.lt_or_ge j i with hlt | hge
      · have := heldTo_mono pins (show j + 1 ≤ i by omega)
        rw [if_neg (by omega)] at hs
        rw [if_pos (by omega)]
        rw [show heldTo (pins.set i (J, false)) j = heldTo pins j by omega]
        exact hq
      · have := heldTo_mono pins (show i + 1 ≤ j by omega)
        rw [if_pos (by omega)] at hs
        rw [if_neg (by omega)]
        rw [show heldTo (pins.set i (J, false)) j + 1 = heldTo pins j by omega]
        exact hq
  · by_cases e : j = i
    · subst e
      rw [hp] at hp'
      injection hp' with hp'
      rw [← hp']
      exact hoff
    · rw [List.getElem?_set_ne (by omega)] at hJ'
      exact hk _ (h.off j p' J' hp' hJ')
section
variable {Ar : Nat → Prop} {m : Nat} {w0 w w' : World} {g d s r : Nat} {X : Sto} {R : RSto} {Y : Joint} {Q : List PinPlace} {bp O S : List Nat} {bv : Value}
theorem Bn.rel_step {X' : Sto} {i : Nat} {q : PinPlace} {st : St} (h : Bn w0 w g d s r X Q R bp O S bv) (hs : StoN (w0.heap.size ≤ ·) w' s d X' (Q.eraseIdx i) O) (hq : q ∈ Q) (hsn : SnapAt w q.1 s q.2.1 q.2.2 st) (k : Keeps (fun k => k ∈ O ∨ k = q.1) w w') :
    Bn w0 w' g d s r X' (Q.eraseIdx i) R bp O S bv := by
  have hblk : ∀ p, (p ∈ O ∨ p = q.1) → ∀ t cs, Blk w p t cs → t = 103 ∨ t = 100 ∨ t = 94 ∨ t = 89 ∨ t = 138 ∨ t = 31 := fun p hp t cs hb => by
    rcases hp with hp | rfl
    · exact .inr (h.ltO p hp t cs hb)
    · exact .inl (hb.det hsn.1).2
  have hne : ∀ p, (p ∈ O ∨ p = q.1) → ∀ t cs, Blk w p t cs → t ≠ 51 ∧ t ≠ 48 ∧ t ≠ 114 ∧ t ≠ 5 ∧ t ≠ 39 := fun p hp t cs hb => by
    rcases hblk p hp t cs hb with e | e | e | e | e | e
    all_goals
      subst e
      exact ⟨by decide, by decide, by decide, by decide, by decide⟩
  refine ⟨Nat.le_trans h.size k.size, below_keeps h.kept k h.size fun p hp => ?_, hs, ?_, fun q' hq' => ⟨(h.qs q' (List.mem_of_mem_eraseIdx hq')).1, Nat.lt_of_lt_of_le (h.qs q' (List.mem_of_mem_eraseIdx hq')).2 k.size⟩, h.ref.keeps k (fun p hp e => ?_) fun p t cs hp hb => ⟨(hne p hp t cs hb).2.2.1, (hne p hp t cs hb).2.2.2.1⟩, Blk.keeps h.bench k fun e => (hne g e _ _ h.bench).2.2.2.2 rfl, ownsRow_keeps h.row k fun p hp e => ?_, h.apart, h.newO, h.newS, h.newg⟩
  · rcases hp with hp | rfl
    · exact h.newO p hp
    · exact (h.qs q hq).1
  · rw [← eraseIdx_map_]
    exact h.nod.sublist (List.eraseIdx_sublist _ _)
  · obtain ⟨t, cs, hb, ht⟩ := h.ref.own p e
    rcases ht with e2 | e2
    · exact (hne p hp t cs hb).1 e2
    · exact (hne p hp t cs hb).2.1 e2
  · rcases e with e | e
    · exact h.apart p hp e
    · obtain ⟨cs, hb⟩ := own_is_blk h.row hp
      rw [e] at hb
      exact absurd (hb.det hsn.1).2 (by decide)
/-- What a call of the bench leaves, its snapshots too. -/
def PlayA (Ar : Nat → Prop) (m : Nat) (w0 : World) (g d s r n : Nat) (w' : World) : Prop :=
  ∃ Y' Q' bp' O' S' bv', Bn w0 w' g d s r Y'.sto Q' Y'.ref bp' O' S' bv' ∧ Ok m Y' ∧ Quiet Ar Y'.disk Y'.now.st ∧ Y'.n = n ∧ PinsRel w' Y'.pins Q' bp' ∧ ∀ q ∈ Y'.pins, q.1.ents.length ≤ 1000
abbrev Play (m : Nat) (w0 : World) (g d s r n : Nat) (w' : World) : Prop := PlayA Unarmed m w0 g d s r n w'
theorem DoPost.play {e : Ending} (h : DoPost Ar m w0 w g d s r Y Q bp O S bv e w') (hY : Ok m Y) (hp : PinsRel w Y.pins Q bp) (hpf : ∀ q ∈ Y.pins, q.1.ents.length ≤ 1000) : e = .returned (.bool true) ∧ PlayA Ar (m + 1) w0 g d s r Y.n w' := by
  obtain ⟨he, Y', Q', bp', O', S', bv', h1, h2, h3, h4, h6, _, _, _, h5⟩ := h
  refine ⟨he, Y', Q', bp', O', S', bv', h1, h2, h3, h4, h5 hp, fun q hq => ?_⟩
  rcases h6 with e | e
  · rw [e] at hq
    exact hpf q hq
  · rw [e] at hq
    rcases List.mem_append.1 hq with hq | hq
    · exact hpf q hq
    · rw [List.mem_singleton] at hq
      subst hq
      have := hY.few Y.now (by simp [Joint.live])
      have := hY.m100
      show Y.now.ents.length ≤ 1000
      omega
theorem pin_calls (h : Bn w0 w g d s r Y.sto Q Y.ref bp O S bv) (hY : Ok m Y) (h0 : Quiet Ar Y.disk Y.now.st) (hm : m + 1 ≤ 100) (hp : PinsRel w Y.pins Q bp) (hpf : ∀ q ∈ Y.pins, q.1.ents.length ≤ 1000) (hb0 : 0 < bp.length) (kd : Nat) (key : ByteArray) (n y : Nat) (hks : key.size ≤ maxLen) (hn : n ≤ 65535) (hkd : (kd : Int) % 9 = 7 ∨ (kd : Int) % 9 = 8) :
    Calls Tryz.prog 59 #[.pointer (some ⟨g, 0, none⟩), .agg (opCells kd key n y)] w fun e w' => e = .returned (.bool true) ∧ PlayA Ar (m + 1) w0 g d s r Y.n w' := by
  obtain ⟨i, hi⟩ : ∃ i, i = n % bp.length := ⟨_, rfl⟩
  have hil : i < bp.length := by rw [hi]; exact Nat.mod_lt _ hb0
  have hmod : (n : Int) % (bp.length : Int) = (i : Int) := by rw [hi]; exact (Int.natCast_emod _ _).symm
  have hpen : Y.sto.disk.pending.length ≤ 1000000000 := by
    show Y.disk.pending.length ≤ 1000000000
    rw [hY.pend]
    exact Nat.zero_le _
  have hfew : ∀ q ∈ Y.pins, q.1.ents.length ≤ 1000 := hpf
  obtain ⟨p, J, held, gb, c, nq, gq, cp, Aq, cq, hps, hinq, hnq, hbpi, hJi, hE, hEl⟩ := pin_set h hY hp hfew hil
  obtain ⟨⟨code, l⟩, hgr⟩ : ∃ x, x = getR J.rs key := ⟨_, rfl⟩
  have hS : ∀ k ∈ S, k < w.heap.size := fun k hk => by
    obtain ⟨t, cs, hb, _⟩ := h.ref.own k hk
    exact hb.lt
  have hsnap : held = true → ∃ q, Q[heldTo Y.pins i]? = some q ∧ q.1 = p ∧ (heldJ Y.pins)[heldTo Y.pins i]? = some J ∧ Y.sto.pins[heldTo Y.pins i]? = some J.st := fun e => by
    subst e
    obtain ⟨q, hq, hqe⟩ := hp.held i p J hbpi hJi
    refine ⟨q, hq, hqe, (heldJ_off hJi).2, ?_⟩
    show ((heldJ Y.pins).map JSt.st)[_]? = _
    rw [List.getElem?_map, (heldJ_off hJi).2]
    rfl
  refine pin_walk (n := n) (C5 := fun _ w5 => ∃ S', Bn w0 w5 g d s r Y.sto Q (Y.rel i).ref bp O S' bv ∧ PinsRel w5 Y.pins Q bp) (C6 := fun w6 => PlayA Ar (m + 1) w0 g d s r Y.n w6 ∧ SnapOff w6 p) (Z := PlayA Ar (m + 1) w0 g d s r Y.n) (code := code) (l := l) hps hil hinq hn hmod kd key y hS hkd ?_ ?_ ?_ ?_ ?_ ?_
  · intro wx hb
    cases hh : held with
    | true =>
      obtain ⟨q, hq, rfl, hJ2, hsp⟩ := hsnap hh
      have hl := hY.liveJ (List.mem_cons_of_mem _ (List.mem_of_getElem? hJ2) : J ∈ Y.live)
      have := snap_get (h.sto.a_.below hb) ((h.sto.snap hq hsp).below hb) hl.ok hpen key hks
      rw [show getOf Y.sto.life Y.sto.disk J.st.places key.data.toList = (code, l) from (hl.get key).trans hgr.symm] at this
      exact this
    | false =>
      rw [hh] at hJi
      refine (off_get ((hp.off i p J hbpi hJi).below hb (hp.off i p J hbpi hJi).lt) key).mono ?_
      rintro e w' ⟨rfl, hb'⟩
      exact ⟨_, rfl, .inl ⟨rfl, rfl⟩, hb'⟩
  · intro wx hb
    rw [hgr]
    exact getR_calls (t := J.rs) (hE.below hb) key hEl
  · intro _ wx hb
    exact ⟨Y, Q, bp, O, S, bv, h.below hb, hY.mono (Nat.le_succ m) hm, h0, rfl, hp.keeps (F := fun _ => False) (Keeps.of_below hb) (fun _ h => h.elim), hpf⟩
  · intro _ wx hb
    have hB := h.below hb
    have hpl : i < Y.ref.pins.length := by
      show i < (pinsR Y.pins).length
      unfold pinsR
      rw [List.length_map]
      exact (List.getElem?_eq_some_iff.1 hJi).1
    refine (ref_release hB.ref i hpl hY.refOk.pins).mono ?_
    rintro e w5 ⟨rfl, hr⟩
    obtain ⟨S', b1, b2, b3⟩ := hB.ref_step (R' := (Y.rel i).ref) (by rw [rel_ref]; exact hr)
    refine ⟨rfl, ⟨S', b1, (hp.keeps (F := fun _ => False) (Keeps.of_below hb) fun _ h => h.elim).keeps b3 fun q hq t cs hb2 => ?_⟩, b3⟩
    exact (hB.foot_no q (.inr (.inr (.inr hq))) t cs hb2).1
  · rintro wx w5 ⟨S', hB, hp5⟩
    cases hh : held with
    | true =>
      obtain ⟨q, hq, rfl, hJ2, hsp⟩ := hsnap hh
      rw [hh] at hJi
      have hql : Q.length ≤ 1000 := by
        rw [hB.sto.qlen]
        exact hY.few_pins
      refine (ston_release hB.sto hq hB.nod hql).mono ?_
      rintro e w6 ⟨rfl, h1, h2, h3⟩
      have hsx : ({ Y.sto with pins := Y.sto.pins.eraseIdx (heldTo Y.pins i) } : Sto) = (Y.rel i).sto := by
        show ({ Y.sto with pins := ((heldJ Y.pins).map JSt.st).eraseIdx (heldTo Y.pins i) } : Sto) = ({ Y.sto with pins := (heldJ (offAt Y.pins i)).map JSt.st } : Sto)
        rw [(heldJ_off hJi).1, eraseIdx_map_]
      rw [hsx] at h1
      have hsn := hB.sto.snap hq hsp
      have hB6 := hB.rel_step h1 (List.mem_of_getElem? hq) hsn h3
      refine ⟨rfl, ⟨Y.rel i, _, bp, O, S', bv, hB6, (hY.rel i).mono (Nat.le_succ m) hm, h0, rfl, hp5.release hbpi hJi h2 (fun p' hp' => ?_), ?_⟩, h2⟩
      by_cases e : p' = q.1
      · rw [e]
        exact h2
      · refine Blk.keeps hp' h3 fun hx => ?_
        rcases hx with hx | hx
        · exact (hB.foot_no p' (.inr (.inr (.inl hx))) _ _ hp').1 rfl
        · exact e hx
      · intro q' hq'
        have hq' : q' ∈ offAt Y.pins i := hq'
        rw [offAt_get hJi] at hq'
        rcases List.mem_or_eq_of_mem_set hq' with h1 | h1
        · exact hpf q' h1
        · subst h1
          exact hpf (J, true) (List.mem_of_getElem? hJi)
    | false =>
      rw [hh] at hJi
      have hoff := hp5.off i p J hbpi hJi
      have hsame : offAt Y.pins i = Y.pins := heldJ_off_no fun J' e => by rw [hJi] at e; simp at e
      have hYr : Y.rel i = Y := by
        show ({ Y with pins := offAt Y.pins i } : Joint) = Y
        rw [hsame]
      refine (off_release hoff).mono ?_
      rintro e w6 ⟨rfl, hb⟩
      rw [hYr] at hB
      exact ⟨rfl, ⟨Y, Q, bp, O, S', bv, hB.below hb, hY.mono (Nat.le_succ m) hm, h0, rfl, hp5.keeps (F := fun _ => False) (Keeps.of_below hb) (fun _ h => h.elim), hpf⟩, Blk.below hoff hb (Blk.lt hoff)⟩
  · rintro w6 ⟨⟨Y', Q', bp', O', S', bv', c1, c2, c3, c4, c5, c6⟩, hoff⟩
    refine (off_generation hoff).mono ?_
    rintro e w7 ⟨rfl, hb⟩
    exact ⟨rfl, Y', Q', bp', O', S', bv', c1.below hb, c2, c3, c4, c5.keeps (F := fun _ => False) (Keeps.of_below hb) (fun _ h => h.elim), c6⟩
set_option maxRecDepth 100000 in
set_option maxHeartbeats 4000000 in
/-- pin, out of do. -/
theorem do_to_pin (h : Bn w0 w g d s r Y.sto Q Y.ref bp O S bv) (kd : Nat) (key : ByteArray) (n y : Nat) (hkd : (kd : Int) % 9 = 7 ∨ (kd : Int) % 9 = 8) (Z : Ending → World → Prop)
    (hpin : ∀ wx, Below w.heap.size w wx → Calls Tryz.prog 59 #[.pointer (some ⟨g, 0, none⟩), .agg (opCells kd key n y)] wx fun e w' => e = .returned (.bool true) ∧ Z (.returned (.bool true)) w') :
    Calls Tryz.prog 13 #[.pointer (some ⟨g, 0, none⟩), .agg (opCells kd key n y)] w Z := by
  have HP := Lib.hid hpin
  have HA : Hid (Below w.heap.size w (w.alloc (.cells (opCells kd key n y) 29))) := (Below.refl _ w).alloc (Nat.le_refl _) _
  clear h hpin
  rcases hkd with hkd | hkd
  all_goals
    go_enter Tryz.func13, Tryz.ntmps13
    go_wp2_with (go_at_call 59; refine (HP.out _ HA.out).mono ?_; rintro e w2 ⟨rfl, hz⟩; have HZ := Lib.hid hz; clear hz)
    exact HZ.out
end
/-- A call of the bench, of whatever kind. -/
theorem do_play {Ar : Nat → Prop} {m : Nat} {w0 w : World} {g d s r : Nat} {Y : Joint} {Q : List PinPlace} {bp O S : List Nat} {bv : Value} (h : Bn w0 w g d s r Y.sto Q Y.ref bp O S bv) (hY : Ok m Y) (h0 : Quiet Ar Y.disk Y.now.st) (hm : m + 1 ≤ 100) (hp : PinsRel w Y.pins Q bp) (hpf : ∀ q ∈ Y.pins, q.1.ents.length ≤ 1000) (kd : Nat) (key : ByteArray) (n y : Nat) (hks : key.size ≤ maxLen) (hn : n ≤ 65535) (hy : y ≤ 255) (hc3 : (kd : Int) % 9 = 3 → Ar = Unarmed) :
    Calls Tryz.prog 13 #[.pointer (some ⟨g, 0, none⟩), .agg (opCells kd key n y)] w fun e w' => e = .returned (.bool true) ∧ PlayA Ar (m + 1) w0 g d s r Y.n w' := by
  have hbl : bp.length ≤ 1000 := by
    rw [hp.len]
    have := hY.pins
    omega
  have hc : (kd : Int) % 9 = 0 ∨ (kd : Int) % 9 = 1 ∨ (kd : Int) % 9 = 2 ∨ (kd : Int) % 9 = 3 ∨ (kd : Int) % 9 = 4 ∨ (kd : Int) % 9 = 5 ∨ (kd : Int) % 9 = 6 ∨ ((kd : Int) % 9 = 7 ∨ (kd : Int) % 9 = 8) := by omega
  rcases hc with hc | hc | hc | hc | hc | hc | hc | hc
  · exact (do_begin h hY h0 hm kd key n y hc).mono fun e w' hd => hd.play hY hp hpf
  · exact (do_put h hY h0 hm kd key n y hn hy hc).mono fun e w' hd => hd.play hY hp hpf
  · exact (do_delete h hY h0 hm kd key n y hks hc).mono fun e w' hd => hd.play hY hp hpf
  · obtain rfl := hc3 hc
    exact (do_commit h hY h0 hm kd key n y hc).mono fun e w' hd => hd.play hY hp hpf
  · exact (do_abort h hY h0 hm kd key n y hc).mono fun e w' hd => hd.play hY hp hpf
  · exact (do_get h hY h0 hm kd key n y hks hc).mono fun e w' hd => hd.play hY hp hpf
  · rcases Nat.lt_or_ge Y.sto.pins.length 16 with h16 | h16
    · exact (do_snap h hY h0 hm hbl h16 kd key n y hc).mono fun e w' hd => hd.play hY hp hpf
    · exact (do_snap_full h hY h0 hm h16 kd key n y hc).mono fun e w' hd => hd.play hY hp hpf
  · rcases Nat.eq_zero_or_pos bp.length with hb | hb
    · obtain rfl : bp = [] := List.eq_nil_of_length_eq_zero hb
      refine do_to_pin h kd key n y hc _ fun wx hbx => ?_
      refine (pin_none (h.below hbx) kd key n y).mono ?_
      rintro e w' ⟨rfl, hb'⟩
      have hb2 := hbx.trans (hb'.mono hbx.size)
      exact ⟨rfl, rfl, (DoPost.same h hY h0 hm hb2).play hY hp hpf |>.2⟩
    · refine do_to_pin h kd key n y hc _ fun wx hbx => ?_
      refine (pin_calls (h.below hbx) hY h0 hm (hp.keeps (F := fun _ => False) (Keeps.of_below hbx) fun _ h => h.elim) hpf hb kd key n y hks hn hc).mono ?_
      rintro e w' ⟨rfl, hz⟩
      exact ⟨rfl, rfl, hz⟩

end Go.Proofs.YtbgiklkpinflaaaGreat

namespace Go.Proofs.YtbgiklkpinflaaaGreat
open Go.RowKit Go.Shelf Go.Maps
attribute [local go_sem ↓] Go.wp_at_zero Go.wp_at_succ

def JSt.zero : JSt := ⟨0, [], [2]⟩
def Joint.new (X : Sto) (n : Nat) : Joint := ⟨n, X.disk, X.life, .zero, [], none, 0, 0⟩
def RSto.new (n : Nat) : RSto := ⟨n, ⟨0, []⟩, ⟨0, []⟩, false, [], 0⟩
theorem NewSto.joint {X : Sto} {n : Nat} (h : NewSto X n) : (Joint.new X n).sto = X := by
  obtain ⟨D, l, now, pins, op, notes, gone⟩ := X
  have e1 := h.now
  have e2 := h.pins
  have e3 := h.opened
  have e4 := h.notes
  have e5 := h.gone
  simp only at e1 e2 e3 e4 e5
  subst e1 e2 e3 e4 e5
  rfl
theorem Joint.new_ref (X : Sto) (n : Nat) : (Joint.new X n).ref = RSto.new n := rfl
theorem NewSto.okJ {X : Sto} {n : Nat} (h : NewSto X n) (h4 : 4 ≤ n) (h5 : n ≤ 1024) : Ok 0 (Joint.new X n) := by
  have hlive : ∀ J ∈ (Joint.new X n).live, J = JSt.zero := fun J hJ => by
    rcases List.mem_cons.1 hJ with rfl | hJ
    · rfl
    · simp [Joint.new, heldJ] at hJ
  refine ⟨by omega, h4, h5, h.len, h.up.down, h.pend, ?_, ?_, ⟨fun b => if b = 2 then (true, 0) else (false, 0), ⟨fun J hJ => ?_, fun J hJ K hK _ => ?_, fun J hJ K hK x hx => ?_⟩⟩, fun J hJ => ?_, Nat.le_refl _, fun J hJ => ?_, fun J hJ x hx => ?_, Nat.le_refl _, Nat.le_refl _, Nat.le_refl _, fun nx hn => by cases hn⟩
  · show X.life = X.disk.life
    rw [h.life, h.dlife]
  · show X.disk.life ≤ 0
    rw [h.dlife]
    exact Nat.le_refl _
  · rw [hlive J hJ]
    refine ⟨by simp [JSt.zero], List.Pairwise.nil, by simp [JSt.zero], fun x hx => by simp [JSt.zero] at hx, fun x hx => by simp [JSt.zero] at hx, fun x hx => by simp [JSt.zero] at hx, fun x hx => by simp [JSt.zero] at hx, fun x hx => by simp [JSt.zero] at hx, ?_, fun b hb => ?_, by simp [JSt.zero]⟩
    · simp [JSt.zero, indexOf, entsLen, blocksFor]
    · have hb : b = 2 := by simpa [JSt.zero] using hb
      subst hb
      refine ⟨Nat.le_refl _, ?_, rfl⟩
      show 2 < n
      omega
  · rw [hlive J hJ, hlive K hK]
  · rw [hlive J hJ] at hx
    simp [JSt.zero] at hx
  · rw [hlive J hJ]
    exact Nat.le_refl _
  · rw [hlive J hJ]
    exact Nat.le_refl _
  · rw [hlive J hJ] at hx
    simp [JSt.zero] at hx
set_option maxRecDepth 100000 in
set_option maxHeartbeats 4000000 in
theorem refFormat2 (n : Nat) (w : World) : Calls Tryz.prog 44 #[.int .i64 (n : Int)] w fun e w' => e = .returned (.pointer (some ⟨w.heap.size, 0, none⟩)) ∧ RefAt w' w.heap.size (RSto.new n) [w.heap.size] ∧ Below w.heap.size w w' := by
  go_enter Tryz.func44, Tryz.ntmps44
  go_wp2
  go_ret
  refine ⟨rfl, ⟨.slice none 0 0, .slice none 0 0, .slice none 0 0, [], ⟨?_, EntsAt.nil _, EntsAt.nil _, ⟨rfl, .inl ⟨rfl, rfl⟩⟩, rfl, fun q hq => by simp at hq⟩, rfl⟩, (Below.refl _ _).alloc (Nat.le_refl _) _⟩
  exact Blk.new w _ _
/-- The bench at its start. -/
def Laid (w0 w : World) (g d s r n : Nat) : Prop := ∃ Y O S, Bn w0 w g d s r Y.sto [] Y.ref [] O S (.slice none 0 0) ∧ Ok 0 Y ∧ Quiet Unarmed Y.disk Y.now.st ∧ Y.n = n ∧ Y.pins = []
set_option maxRecDepth 100000 in
set_option maxHeartbeats 4000000 in
theorem laid_bench {n : Nat} {w0 : World} (w : World) (h1 : 4 ≤ n) (h2 : n ≤ 1024) (hw : w0.heap.size ≤ w.heap.size) (hk : Below w0.heap.size w0 w) :
    Calls Tryz.prog 11 #[.int .i64 (n : Int)] w fun e w' => ∃ g d s r, e = .returned (.tuple #[.pointer (some ⟨g, 0, none⟩), .bool true]) ∧ Laid w0 w' g d s r n ∧ w.heap.size ≤ g ∧ Below w.heap.size w w' := by
  have HN := Lib.hid (new_made (P := (w0.heap.size ≤ ·)) (n := n) w h1 h2 (fun k hk => Nat.le_trans hw hk))
  have HX := Lib.hid (NewSto.made (n := n) h1)
  have HW := Lib.hid hw
  have HK := Lib.hid hk
  have H1 := Lib.hid h1
  have H2 := Lib.hid h2
  clear hw hk h1 h2
  go_enter Tryz.func11, Tryz.ntmps11
  go_wp2_with (first
    | (go_at_call 48; refine HN.out.mono ?_; rintro e w1 ⟨rfl, hb1, hF1⟩; have HF1 := Lib.hid hF1; clear hb1 hF1)
    | (go_at_call 43; refine HF1.out.mono ?_; rintro e w2 ⟨s, rfl, hB2⟩; have HB2 := Lib.hid hB2; clear hB2)
    | (go_at_call 44; refine (refFormat2 n _).mono ?_; rintro e w3 ⟨rfl, hr3, hb3⟩; have HR3 := Lib.hid hr3; have HB3 := Lib.hid hb3; clear hr3 hb3))
  go_ret2
  have hbel : Below w3.heap.size w3 (w3.alloc (.cells #[.pointer (some ⟨w.heap.size, 0, none⟩), .pointer (some ⟨s, 0, none⟩), .pointer (some ⟨w2.heap.size, 0, none⟩), .slice none 0 0] 39)) := (Below.refl _ _).alloc (Nat.le_refl _) _
  have hbox := (HB2.out.below HB3.out).below hbel
  have hsz2 : w.heap.size ≤ w2.heap.size := HB2.out.1
  have hsz3 := HB3.out.size
  obtain ⟨b1, b2, O, b3, b4⟩ := hbox
  obtain ⟨Q, hQ⟩ := b3.n_
  have hq0 : Q = [] := List.eq_nil_of_length_eq_zero (by rw [hQ.qlen, HX.out.pins]; rfl)
  subst hq0
  have hwb : Below w.heap.size w (w3.alloc (.cells #[.pointer (some ⟨w.heap.size, 0, none⟩), .pointer (some ⟨s, 0, none⟩), .pointer (some ⟨w2.heap.size, 0, none⟩), .slice none 0 0] 39)) := b2
  refine ⟨_, w.heap.size, s, w2.heap.size, rfl, ⟨Joint.new (Dsk.new n).sto n, O, [w2.heap.size], ?_, HX.out.okJ H1.out H2.out, ⟨HX.out.up.armed, new_rooted H1.out⟩, rfl, rfl⟩, ?_, hwb⟩
  · rw [HX.out.joint, Joint.new_ref]
    refine ⟨Nat.le_trans HW.out b1, HK.out.trans (hwb.mono HW.out), hQ, List.nodup_nil, fun q hq => by simp at hq, HR3.out.below hbel, Blk.new w3 _ _, ⟨rfl, .inl ⟨rfl, rfl⟩⟩, fun k hk => by simp [Value.ownBlock] at hk, fun k hk => Nat.le_trans HW.out (b4 k hk), fun k hk => ?_, ?_⟩
    · have hk : k = w2.heap.size := by simpa using hk
      have := HW.out
      omega
    · have := HW.out
      omega
  · omega

end Go.Proofs.YtbgiklkpinflaaaGreat

namespace Go.Proofs.YtbgiklkpinflaaaGreat
open Go.RowKit Go.Shelf

/-- The k-th call of a list that came in. -/
def OpRow (w : World) (gb go k : Nat) : Prop :=
  ∃ (kd : Nat) (key : ByteArray) (n y : Nat), w.cell? ⟨gb, go + k * 4, none⟩ = some (.int .u8 (kd : Int)) ∧ w.cell? ⟨gb, go + k * 4 + 1, none⟩ = some (.string key) ∧ w.cell? ⟨gb, go + k * 4 + 2, none⟩ = some (.int .u16 (n : Int)) ∧ w.cell? ⟨gb, go + k * 4 + 3, none⟩ = some (.int .u8 (y : Int)) ∧ key.size ≤ maxLen ∧ n ≤ 65535 ∧ y ≤ 255
/-- A list of calls that came in. -/
def OpArg (w : World) (A : Option Addr) (n : Nat) : Prop := n ≤ maxLen ∧ ∀ k, k < n → ∃ gb go, A = some ⟨gb, go, none⟩ ∧ OpRow w gb go k
theorem OpRow.below {w w1 : World} {gb go k : Nat} (h : OpRow w gb go k) (hb : Below w.heap.size w w1) : OpRow w1 gb go k := by
  obtain ⟨kd, key, n, y, h0, h1, h2, h3, h4⟩ := h
  have g : ∀ {p : Addr} {v : Value}, w.cell? p = some v → w1.cell? p = some v := fun h => (hb.cell (World.block_lt_of_cell? w _ h)).trans h
  exact ⟨kd, key, n, y, g h0, g h1, g h2, g h3, h4⟩
end Go.Proofs.YtbgiklkpinflaaaGreat

namespace Go.Proofs.YtbgiklkpinflaaaGreat
open Go.ChangeShapes Go.WideShapes Go.Deep
section
variable {H : Type} {enc : TypeId × Value → H} {P : Program} {w : World} {base : Nat} {spare : Nat → Bool} {held : Bool}
theorem open_slice_fields {t e : TypeId} {fs : Array Field} {fuel : Nat} {cs : List Value} {x : DataW H × List MemPlace} (ht : P.underlying t = some (.slice e)) (he : P.underlying e = some (.struct fs))
    (hone : oneCellFields P fs = true) (hC : P.cellsOf e = fs.size) (h : DataW.trod enc P w base spare held fuel t cs = some x) :
    (cs = [.slice none 0 0] ∧ x = (.nil, [])) ∨
    ∃ (a : Addr) (len cap m : Nat) (D : Nat → DataW H) (Pl : Nat → List MemPlace), cs = [.slice (some a) len cap] ∧ base ≤ a.block ∧ len ≤ cap ∧ cap ≤ maxLen ∧ m = (if spare a.block then cap else len) ∧
      x = (.slice ((List.range len).map D) ((List.range (m - len)).map fun j => D (len + j)), MemPlace.row a (m * fs.size) ++ (List.range m).flatMap Pl) ∧
      ∀ i, i < m → ∃ (ys : List (DataW H × List MemPlace)) (n : Nat), D i = .agg (ys.map (·.1)) ∧ Pl i = ys.flatMap (·.2) ∧ ys.length = fs.size ∧
        ∀ (j : Nat) (f : Field), fs[j]? = some f → ∃ (v : Value) (y : DataW H × List MemPlace), w.cell? (a.add (i * fs.size + j)) = some v ∧ ys[j]? = some y ∧ DataW.trod enc P w base spare held n f.type [v] = some y := by
  rcases open_slice ht h with h0 | ⟨a, len, cap, m, n, D, Pl, hcs, hb, hl, hm, hmm, hx, hi⟩
  · exact .inl h0
  · refine .inr ⟨a, len, cap, m, D, Pl, hcs, hb, hl, hm, hmm, by rw [hC] at hx; exact hx, fun i him => ?_⟩
    obtain ⟨cs', hc, ht'⟩ := hi i him
    rw [hC] at hc
    obtain ⟨ys, n', hn', hy, hlen, hyl, hf⟩ := DataW.trod_struct he ht'
    obtain ⟨_, hcl, hat⟩ := World.cells?_some hc
    simp only [Prod.mk.injEq] at hy
    refine ⟨ys, n', hy.1, hy.2, hyl, fun j f hj => ?_⟩
    obtain ⟨ho, hk⟩ := hone_of hone j f hj
    have hjl : j < fs.size := (Array.getElem?_eq_some_iff.1 hj).1
    have hcell := hat j hjl
    have hv : cs'[j]? = some (cs'[j]'(by omega)) := List.getElem?_eq_getElem (by omega)
    have h1 := hf j f hj
    rw [ho, hk] at h1
    have hone' : (cs'.drop j).take 1 = [cs'[j]'(by omega)] := by
      rw [List.drop_eq_getElem_cons (by omega)]
      rfl
    rw [hone'] at h1
    have hys : ys[j]? = some (ys[j]'(by omega)) := List.getElem?_eq_getElem (by omega)
    refine ⟨_, _, ?_, hys, h1.trans hys⟩
    rw [← Go.Deep.add_add, hcell, hv]
end
theorem opArg_of {H : Type} {enc : TypeId × Value → H} {w : World} {held : Bool} {A : Option Addr} {n c : Nat} {d : DataW H} {p : List MemPlace} (h : DataW.Trod enc Tryz.prog w 0 (fun _ => true) held 22 (.slice A n c) d p) : OpArg w A n := by
  obtain ⟨fuel, hf⟩ := h
  rcases open_slice_fields Tryz.underlying22 Tryz.underlying29 (by kernel_rfl) (by kernel_rfl) hf with ⟨hcs, _⟩ | ⟨a, len, cap, m, D, Pl, hcs, _, hl, hm, hmm, _, hi⟩
  · simp [Value.cells] at hcs
    obtain ⟨rfl, rfl, rfl⟩ := hcs
    exact ⟨Nat.zero_le _, fun k hk => absurd hk (Nat.not_lt_zero _)⟩
  · simp [Value.cells] at hcs
    obtain ⟨rfl, rfl, rfl⟩ := hcs
    simp only [if_true] at hmm
    subst hmm
    refine ⟨Nat.le_trans hl hm, fun k hk => ?_⟩
    obtain ⟨gb, go, sp⟩ := a
    have hsp : sp = none := by
      obtain ⟨ys, n', _, _, _, hj⟩ := hi 0 (by omega)
      obtain ⟨v0, y0, c0, _, t0⟩ := hj 0 _ rfl
      rw [Nat.zero_mul] at c0
      simpa [Addr.add] using World.cell?_spot c0
    subst hsp
    have hadd : ∀ m, (⟨gb, go, none⟩ : Addr).add m = ⟨gb, go + m, none⟩ := fun m => by unfold Addr.add; split <;> simp_all
    refine ⟨gb, go, rfl, ?_⟩
    obtain ⟨ys, n', _, _, _, hj⟩ := hi k (by omega)
    obtain ⟨v0, y0, c0, _, t0⟩ := hj 0 _ rfl
    obtain ⟨v1, y1, c1, _, t1⟩ := hj 1 _ rfl
    obtain ⟨v2, y2, c2, _, t2⟩ := hj 2 _ rfl
    obtain ⟨v3, y3, c3, _, t3⟩ := hj 3 _ rfl
    rw [hadd] at c0 c1 c2 c3
    obtain ⟨x0, e0, _, w0⟩ := DataW.trod_int Tryz.underlying5 t0
    obtain ⟨x1, e1, _, w1⟩ := DataW.trod_string Tryz.underlying9 t1
    obtain ⟨x2, e2, _, w2⟩ := DataW.trod_int Tryz.underlying27 t2
    obtain ⟨x3, e3, _, w3⟩ := DataW.trod_int Tryz.underlying5 t3
    simp only [List.cons.injEq, and_true] at e0 e1 e2 e3
    subst e0 e1 e2 e3
    have m0 : IntKind.u8.min = 0 := rfl
    have m1 : IntKind.u8.max = 255 := rfl
    have m2 : IntKind.u16.min = 0 := rfl
    have m3 : IntKind.u16.max = 65535 := rfl
    simp only [Lit.wf, Bool.and_eq_true, decide_eq_true_eq] at w0 w2 w3
    obtain ⟨kd, rfl⟩ := Int.eq_ofNat_of_zero_le (show 0 ≤ x0 by omega)
    obtain ⟨n, rfl⟩ := Int.eq_ofNat_of_zero_le (show 0 ≤ x2 by omega)
    obtain ⟨y, rfl⟩ := Int.eq_ofNat_of_zero_le (show 0 ≤ x3 by omega)
    exact ⟨kd, x1, n, y, c0, c1, c2, c3, w1, by omega, by omega⟩
end Go.Proofs.YtbgiklkpinflaaaGreat

namespace Go.Proofs.YtbgiklkpinflaaaGreat
open Go.RowKit Go.Shelf Go.Maps
attribute [local go_sem ↓] Go.wp_at_zero Go.wp_at_succ
section
variable {Ar : Nat → Prop} {m : Nat} {w0 w w' : World} {g d s r n : Nat} {Y : Joint} {Q : List PinPlace} {bp O S : List Nat} {bv : Value}
theorem PlayA.below (h : PlayA Ar m w0 g d s r n w) (hb : Below w.heap.size w w') : PlayA Ar m w0 g d s r n w' := by
  obtain ⟨Y', Q', bp', O', S', bv', h1, h2, h3, h4, h5, h6⟩ := h
  exact ⟨Y', Q', bp', O', S', bv', h1.below hb, h2, h3, h4, h5.keeps (F := fun _ => False) (Keeps.of_below hb) (fun _ h => h.elim), h6⟩
theorem PlayA.kept (h : PlayA Ar m w0 g d s r n w) : Below w0.heap.size w0 w := by
  obtain ⟨Y', Q', bp', O', S', bv', h1, _⟩ := h
  exact h1.kept
theorem PlayA.do_ (h : PlayA Ar m w0 g d s r n w) (hm : m + 1 ≤ 100) (kd : Nat) (key : ByteArray) (q y : Nat) (hks : key.size ≤ maxLen) (hq : q ≤ 65535) (hy : y ≤ 255) (hc3 : (kd : Int) % 9 = 3 → Ar = Unarmed) :
    Calls Tryz.prog 13 #[.pointer (some ⟨g, 0, none⟩), .agg #[.int .u8 (kd : Int), .string key, .int .u16 (q : Int), .int .u8 (y : Int)]] w fun e w' => e = .returned (.bool true) ∧ PlayA Ar (m + 1) w0 g d s r n w' := by
  obtain ⟨Y', Q', bp', O', S', bv', h1, h2, h3, h4, h5, h6⟩ := h
  rw [← h4]
  exact do_play h1 h2 h3 hm h5 h6 kd key q y hks hq hy hc3
theorem PlayA.fits (h : PlayA Ar m w0 g d s r n w) :
    Calls Tryz.prog 24 #[.pointer (some ⟨g, 0, none⟩)] w fun e w' => e = .returned (.bool true) ∧ PlayA Ar m w0 g d s r n w' := by
  have h' := h
  obtain ⟨Y', Q', bp', O', S', bv', h1, h2, _⟩ := h
  exact (fits_calls h1 h2).mono fun e w' ⟨a, b⟩ => ⟨a, h'.below b⟩
theorem Laid.play (h : Laid w0 w g d s r n) : Play 0 w0 g d s r n w := by
  obtain ⟨Y, O, S, h1, h2, h3, h4, h5⟩ := h
  refine ⟨Y, [], [], O, S, _, h1, h2, h3, h4, ?_, fun q hq => by rw [h5] at hq; simp at hq⟩
  rw [h5]
  exact PinsRel.nil w
theorem Play.do_ {w0 w : World} {g d s r n m : Nat} (h : Play m w0 g d s r n w) (hm : m + 1 ≤ 100) (kd : Nat) (key : ByteArray) (q y : Nat) (hks : key.size ≤ maxLen) (hq : q ≤ 65535) (hy : y ≤ 255) :
    Calls Tryz.prog 13 #[.pointer (some ⟨g, 0, none⟩), .agg #[.int .u8 (kd : Int), .string key, .int .u16 (q : Int), .int .u8 (y : Int)]] w fun e w' => e = .returned (.bool true) ∧ Play (m + 1) w0 g d s r n w' := PlayA.do_ h hm kd key q y hks hq hy fun _ => rfl
theorem Laid.kept (h : Laid w0 w g d s r n) : Below w0.heap.size w0 w := h.play.kept
theorem pins_all (h : Bn w0 w g d s r Y.sto Q Y.ref bp O S bv) (hY : Ok m Y) (hp : PinsRel w Y.pins Q bp) (hpf : ∀ q ∈ Y.pins, q.1.ents.length ≤ 1000) {i : Nat} (hil : i < bp.length) :
    ∃ p held gb c nq gq cp Aq cq gen ne, PinSet w g r bp.length i p gb c nq gq cp gen ne Aq cq held ∧ i < nq ∧ nq ≤ 1000 ∧ (held = true → ∀ wx, Below w.heap.size w wx → Calls Tryz.prog 16 #[.pointer (some ⟨p, 0, none⟩), .agg #[.int .i64 (gen : Int), .slice Aq ne cq]] wx fun e w' => e = .returned (.bool true) ∧ Below wx.heap.size wx w') := by
  obtain ⟨p, J, held, gb, c, nq, gq, cp, Aq, cq, hps, hinq, hnq, hbpi, hJi, hE, hEl⟩ := pin_set h hY hp hpf hil
  refine ⟨p, held, gb, c, nq, gq, cp, Aq, cq, _, _, hps, hinq, hnq, fun e wx hb => ?_⟩
  subst e
  have hpen : Y.sto.disk.pending.length ≤ 1000000000 := by
    show Y.disk.pending.length ≤ 1000000000
    rw [hY.pend]
    exact Nat.zero_le _
  obtain ⟨q, hq, rfl⟩ := hp.held i p J hbpi hJi
  have hl := hY.liveJ (List.mem_cons_of_mem _ (mem_heldJ (List.mem_of_getElem? hJi)) : J ∈ Y.live)
  have hsp : Y.sto.pins[heldTo Y.pins i]? = some J.st := by
    show ((heldJ Y.pins).map JSt.st)[_]? = _
    rw [List.getElem?_map, (heldJ_off hJi).2]
    rfl
  exact pinned_calls (h.sto.a_.below hb) ((h.sto.snap hq hsp).below hb) hY.alive hl.ok hpen (hE.below hb) hEl hl.short hl.keys hl.all
end

set_option maxRecDepth 100000 in
set_option maxHeartbeats 8000000 in
theorem plays_calls (w : World) (b : Nat) (hb : b ≤ 255) (A : Option Addr) (n c : Nat) (hA : OpArg w A n) :
    Calls Tryz.prog 5 #[.int .u8 (b : Int), .slice A n c] w fun e w' => e = .returned (.bool true) ∧ Below w.heap.size w w' := by
  obtain ⟨q, hq⟩ : ∃ q, q = b % 60 := ⟨_, rfl⟩
  have hq60 : q ≤ 59 := by omega
  have hmod : (b : Int) % 60 = (q : Int) := by omega
  obtain ⟨m, hm⟩ : ∃ m : Nat, (m : Int) = 4 + (q : Int) := ⟨4 + q, by simp⟩
  have hwr : IntKind.i64.wrap (4 + (q : Int)) = (m : Int) := by rw [hm]; exact IntWalk.i64_in _ (by omega)
  have HL := Lib.hid (laid_bench (n := m) (w0 := w) w (by omega) (by omega) (Nat.le_refl _) (Below.refl _ _))
  have HA := Lib.hid hA
  have hmax := hA.1
  unfold maxLen at hmax
  clear hA hm hq
  by_cases hbig : 40 < n
  · have t2 : decide ((40 : Int) < n) = true := by simp; omega
    clear hbig
    go_enter Tryz.func5, Tryz.ntmps5
    go_wp2_with (first
      | (go_at_call 11; refine HL.out.mono ?_; rintro e w1 ⟨g, d, s, r, rfl, hl1, hg1, hb1⟩; have HB1 := Lib.hid hb1; clear hl1 hb1)
      | (go_at_call 12; refine (awake_calls _).mono ?_; rintro e w4 ⟨rfl, hb4⟩; have HB4 := Lib.hid hb4; clear hb4))
    go_ret
    exact ⟨rfl, HB1.out.trans (HB4.out.mono HB1.out.size)⟩
  · have t2 : decide ((40 : Int) < n) = false := by simp; omega
    have hn40 : n ≤ 40 := by omega
    clear hbig
    go_enter Tryz.func5, Tryz.ntmps5
    go_wp2_with (go_at_call 11; refine HL.out.mono ?_; rintro e w1 ⟨g, d, s, r, rfl, hl1, hg1, hb1⟩; have HP1 := Lib.hid hl1.play; clear hl1 hb1)
    go_loopw [32] (fun x wr => ∃ k : Nat, k ≤ n ∧ x = .int .i64 k ∧ Play k w g d s r m wr) (fun x _ => n - (intOf x).toNat)
    case atStart => exact ⟨0, Nat.zero_le _, rfl, HP1.out⟩
    case round =>
      obtain ⟨k, hk, rfl, hM⟩ := hrel
      by_cases hlt : k < n
      · have tk : decide ((k : Int) < (n : Int)) = true := by simp; omega
        obtain ⟨gb, go, rfl, hrow⟩ := HA.out.2 k hlt
        obtain ⟨kd, key, qn, y, q0, q1, q2, q3, hks, hqn, hy⟩ := hrow.below hM.kept
        have HMA : Hid (∀ o, Play k w g d s r m (wr.alloc o)) := fun o => hM.below ((Below.refl _ wr).alloc (Nat.le_refl _) o)
        clear hM hrow
        go_wp2_with (first
          | (go_at_call 24; refine HP3.out.fits.mono ?_; rintro e w4 ⟨rfl, hp4⟩; have HP4 := Lib.hid hp4; clear hp4)
          | (go_at_call 13; refine ((HMA.out _).do_ (by omega) kd key qn y hks hqn hy).mono ?_; rintro e w3 ⟨rfl, hp3⟩; have HP3 := Lib.hid hp3; clear hp3))
        go_roundw
        case rel => exact ⟨k + 1, by omega, by go_num, HP4.out⟩
        case measure => simp [intOf]; omega
      · obtain rfl : k = n := by omega
        have tk : decide ((k : Int) < (k : Int)) = false := by simp
        have HM := Lib.hid hM
        obtain ⟨Y, Q, bp, O, S, bv, hB, hY, h0, hn, hp, hpf⟩ := hM
        obtain ⟨Ab, cb, rfl, _⟩ := own_slice hB.row
        have d3 : wr.cell? ⟨g, 3, none⟩ = some (.slice Ab bp.length cb) := Blk.cell hB.bench 3
        have HPA : Hid (∀ i, i < bp.length → _) := Lib.hid fun i (hil : i < bp.length) => pins_all hB hY hp hpf hil
        have hbl : bp.length ≤ 1000 := by
          rw [hp.len]
          have := hY.pins
          omega
        have HC3 : Hid (∀ wx, Below wr.heap.size wr wx → wx.cell? ⟨g, 3, none⟩ = some (.slice Ab bp.length cb)) := fun wx hb => Blk.cell (Blk.below hB.bench hb (Blk.lt hB.bench)) 3
        obtain ⟨wz, hwz⟩ : ∃ wz : World, wz = wr := ⟨_, rfl⟩
        subst hwz
        obtain ⟨nb, hnb⟩ : ∃ nb, nb = bp.length := ⟨_, rfl⟩
        rw [← hnb] at d3 HPA hbl HC3
        clear hB hY h0 hn hp hpf hnb
        go_wp2
        go_loopw [51] (fun x wr => ∃ j : Nat, j ≤ nb ∧ x = .int .i64 j ∧ Below wz.heap.size wz wr) (fun x _ => nb - (intOf x).toNat)
        case atStart => exact ⟨0, Nat.zero_le _, rfl, Below.refl _ _⟩
        case round =>
          obtain ⟨j, hj, rfl, hM2⟩ := hrel
          by_cases hlt2 : j < nb
          · have tk2 : decide ((j : Int) < (nb : Int)) = true := by simp; omega
            obtain ⟨p, held, gb, c2, nq, gq, cp, Aq, cq, gen, ne, hps, hjq, hnq, hpin⟩ := HPA.out j hlt2
            obtain ⟨a1, a2, a3, a4, a5, a6, a7⟩ := hps.cells _ hM2
            have hd := (hps.cells _ (Below.refl _ _)).1
            rw [HC3.out _ (Below.refl _ _)] at hd
            injection hd with hd
            injection hd with hd1 _ hd3
            subst hd1 hd3
            have HPIN := Lib.hid hpin
            have HM2 := Lib.hid hM2
            have hj0 : (0 : Int) ≤ (j : Int) := by omega
            have hj1 : (j : Int) < (nb : Int) := by omega
            have hj2 : (j : Int) < (nq : Int) := by omega
            clear hps hpin hM2
            cases held with
            | true =>
              go_wp2_with (go_at_call 16; refine (HPIN.out rfl _ HM2.out).mono ?_; rintro e w5 ⟨rfl, hb5⟩; have HB5 : Hid (Below wz.heap.size wz w5) := HM2.out.trans (hb5.mono HM2.out.size); clear hb5)
              go_roundw
              case rel => exact ⟨j + 1, by omega, by go_num, HB5.out⟩
              case measure => simp [intOf]; omega
            | false =>
              go_wp2
              go_roundw
              case rel => exact ⟨j + 1, by omega, by go_num, HM2.out⟩
              case measure => simp [intOf]; omega
          · obtain rfl : j = nb := by omega
            have tk2 : decide ((j : Int) < (j : Int)) = false := by simp
            have HM3 := Lib.hid (HM.out.below hM2)
            clear hM2
            go_wp2_with (first
              | (go_at_call 12; refine (awake_calls _).mono ?_; rintro e w7 ⟨rfl, hb7⟩; have HB7 := Lib.hid hb7; clear hb7)
              | (go_at_call 24; refine HM3.out.fits.mono ?_; rintro e w6 ⟨rfl, hp6⟩; have HP6 := Lib.hid hp6; clear hp6))
            go_ret
            exact ⟨rfl, (HP6.out.below HB7.out).kept⟩

end Go.Proofs.YtbgiklkpinflaaaGreat
