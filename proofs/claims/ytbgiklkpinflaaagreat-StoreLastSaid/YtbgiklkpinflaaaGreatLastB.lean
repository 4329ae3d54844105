/- StoreLast: the store in memory with its state's map named (printed by wip/last_gen.py out of SnapA); a bench whose map is named; two benches in one memory. -/
import Derived.Test.YtbgiklkpinflaaaGreatBnH
import Derived.Test.YtbgiklkpinflaaaGreatLastA

namespace Go.Proofs.YtbgiklkpinflaaaGreat
open Go.RowKit Go.Shelf Go.Maps
attribute [local go_sem ↓] Go.wp_at_zero Go.wp_at_succ

/-- As StoN without snapshots, the state's map named. -/
def StoB (P : Nat → Prop) (w : World) (s d : Nat) (X : Sto) (O : List Nat) (mb : Nat) : Prop :=
  ∃ Sd T a pv nv gv, StoParts P w s d X Sd T a mb pv [] nv gv ∧ O = s :: (Sd ++ (T ++ pv.ownBlock.toList))
def StoBPost (P : Nat → Prop) (w : World) (s d : Nat) (X : Sto) (O : List Nat) (mb : Nat) (w' : World) : Prop :=
  ∃ O' mb', StoB P w' s d X O' mb' ∧ (∀ k ∈ O', k ∈ O ∨ w.heap.size ≤ k) ∧ (mb' = mb ∨ w.heap.size ≤ mb') ∧ Keeps (· ∈ O) w w'
theorem StoParts.b_ {P : Nat → Prop} {w : World} {s d : Nat} {X : Sto} {Sd T : List Nat} {a mb : Nat} {pv nv gv : Value} (h : StoParts P w s d X Sd T a mb pv [] nv gv) : StoB P w s d X (s :: (Sd ++ (T ++ pv.ownBlock.toList))) mb := ⟨Sd, T, a, pv, nv, gv, h, rfl⟩
section
variable {P F : Nat → Prop} {w w' : World} {s d : Nat} {X : Sto} {O : List Nat} {mb : Nat}
theorem StoB.n_ (h : StoB P w s d X O mb) : StoN P w s d X [] O := by
  obtain ⟨Sd, T, a, pv, nv, gv, h1, h2⟩ := h
  exact ⟨Sd, T, a, mb, pv, nv, gv, h1, h2⟩
theorem StoN.b_ (h : StoN P w s d X [] O) : ∃ mb, StoB P w s d X O mb := by
  obtain ⟨Sd, T, a, mb, pv, nv, gv, h1, h2⟩ := h
  exact ⟨mb, Sd, T, a, pv, nv, gv, h1, h2⟩
theorem StoB.map (h : StoB P w s d X O mb) : ∃ M, MapAt w mb M := by
  obtain ⟨Sd, T, a, pv, nv, gv, h1, h2⟩ := h
  obtain ⟨_, _, _, l, hM, _⟩ := h1.now
  exact ⟨_, hM⟩
theorem StoB.lt_ (h : StoB P w s d X O mb) : mb < w.heap.size := by
  obtain ⟨M, hM⟩ := h.map
  exact hM.lt
/-- While nothing is open, all of the store's own blocks are rows of cells. -/
theorem StoN.blk_own {Q : List PinPlace} (h : StoN P w s d X Q O) (hop : X.opened = false) : ∀ k ∈ O, ∃ t cs, Blk w k t cs := by
  obtain ⟨Sd, T, a, mb, pv, nv, gv, h1, rfl⟩ := h
  intro k hk
  simp only [List.mem_cons, List.mem_append, Option.mem_toList] at hk
  rcases hk with rfl | hk | hk | hk
  · exact ⟨_, _, h1.hs⟩
  · obtain ⟨t, cs, hb, _⟩ := h1.disk.lt k hk
    exact ⟨t, cs, hb⟩
  · rcases h1.trans with ⟨_, _, _, rfl⟩ | ⟨h2, _⟩
    · simp at hk
    · rw [hop] at h2
      cases h2
  · obtain ⟨cs, hb⟩ := own_is_blk h1.hpins.own hk
    exact ⟨_, cs, hb⟩
theorem StoB.keeps (h : StoB P w s d X O mb) (k : Keeps F w w') (hO : ∀ g, F g → g ∉ O) (hmb : ¬ F mb) (hT : ∀ g t cs, F g → Blk w g t cs → t ≠ 3 ∧ t ≠ 133 ∧ t ≠ 103 ∧ t ≠ 5) : StoB P w' s d X O mb := by
  obtain ⟨Sd, T, a, pv, nv, gv, h, rfl⟩ := h
  have hU : ∀ g cs, F g → P g → Blk w g 5 cs → False := fun g cs hg _ hb => (hT g _ cs hg hb).2.2.2 rfl
  exact ⟨Sd, T, a, pv, nv, gv, ⟨h.hs.keeps k (fun e => hO _ e (by simp)), h.disk.keeps k (fun g hg e => hO g e (by simp [hg])) hU, h.now.keeps k (fun g t cs hg hb => ⟨(hT g t cs hg hb).1, (hT g t cs hg hb).2.1⟩) hmb,
    h.hpins.keeps k (fun g hg e => hO g e (by simp [hg])) (fun g t cs hg hb => ⟨(hT g t cs hg hb).1, (hT g t cs hg hb).2.1, (hT g t cs hg hb).2.2.1⟩) (fun q hq => by simp at hq), h.trans.keeps k hU (fun g hg e => hO g e (by simp [hg])), h.mbT, h.pinT⟩, rfl⟩
theorem StoB.below (h : StoB P w s d X O mb) (hb : Below w.heap.size w w') : StoB P w' s d X O mb := h.keeps (F := fun _ => False) (Keeps.of_below hb) (fun _ h => h.elim) id fun _ _ _ h => h.elim
end
theorem stob_begin {P : Nat → Prop} {w : World} {s d : Nat} {X : Sto} {O : List Nat} {mb : Nat} (h : StoB P w s d X O mb) (hdd : isDead X.life X.disk = false) (hop : X.opened = false) :
    Calls Tryz.prog 32 #[.pointer (some ⟨s, 0, none⟩)] w fun e w' => e = .returned (.int .i64 0) ∧ StoBPost P w s d X.begun O mb w' := by
  obtain ⟨Sd, T, a, pv, nv, gv, h1, rfl⟩ := h
  have hs := h1.hs
  rw [hop] at hs
  refine (begin_yes hs h1.disk hdd).mono ?_
  rintro e w' ⟨rfl, b1, b2, b3, k⟩
  have hF : ∀ g, g = s → g ∈ s :: (Sd ++ T) := fun g e => by simp [e]
  obtain ⟨r1, r2⟩ := h1.rest k hF
  have hsz : ∀ M b, MapAt w b M → b ∉ [w.heap.size, w.heap.size + 1] := fun M b hM => by
    have := hM.lt
    simp only [List.mem_cons, List.not_mem_nil, or_false, not_or]
    omega
  refine ⟨rfl, _, _, StoParts.b_ (X := X.begun) (T := [w.heap.size, w.heap.size + 1]) ⟨b1, h1.disk_ k (fun g e => by simp [e]), r1, r2, .inr ⟨rfl, _, _, rfl, rfl, rfl, by omega, ⟨[], b2, rfl, by simp⟩, b3⟩, ?_, ?_⟩, ?_, .inl rfl, k.weaken fun g _ e => by simp [e]⟩
  · obtain ⟨_, _, _, l, hM, _⟩ := h1.now
    exact hsz _ _ hM
  · intro q hq
    obtain ⟨i, hi⟩ := List.getElem?_of_mem hq
    have hil : i < X.pins.length := by rw [← h1.hpins.len]; exact (List.getElem?_eq_some_iff.1 hi).1
    obtain ⟨_, _, _, _, l, hM, _⟩ := h1.hpins.pat i q X.pins[i] hi (List.getElem?_eq_getElem hil)
    exact hsz _ _ hM
  · intro k hk
    simp only [List.mem_cons, List.mem_append, List.not_mem_nil, or_false, false_or] at hk ⊢
    rcases hk with h | h | (h | h) | h
    · exact .inl (.inl h)
    · exact .inl (.inr (.inl h))
    · exact .inr (by omega)
    · exact .inr (by omega)
    · exact .inl (.inr (.inr (.inr h)))
theorem stob_put {P Q : Nat → Prop} {w : World} {s d n : Nat} {X : Sto} {O : List Nat} {mb : Nat} (h : StoB P w s d X O mb) (hdd : isDead X.life X.disk = false) (hop : X.opened = true) (hok : StOk n X.now) (hsn : Srt X.notes) (hln : X.notes.length ≤ 1000) (hlg : X.gone.length ≤ 1000)
    (key : ByteArray) (hk0 : 0 < key.size) (hk1 : key.size ≤ 64) (v : Value) (l : List UInt8) (hv : BytesAt Q w v l) (hl : l.length ≤ 65536)
    (hroom : X.hasKey key.data.toList = true ∨ (X.now.places.length : Int) - X.gone.length + newNotes X.now.places X.notes < 512) :
    Calls Tryz.prog 49 #[.pointer (some ⟨s, 0, none⟩), .string key, v] w fun e w' => e = .returned (.int .i64 0) ∧ StoBPost P w s d (X.noted key.data.toList l) O mb w' := by
  obtain ⟨Sd, T, a, pv, nv, gv, h1, rfl⟩ := h
  have hs := h1.hs
  rcases h1.trans with ⟨h2, _⟩ | ⟨h2, nb, gb, rfl, rfl, rfl, hng, ⟨L, hN, hL, hP⟩, hG⟩
  · rw [h2] at hop
    cases hop
  rw [h2] at hs
  have hg2 : (mget (mmap (fun x : Value × List UInt8 => x.1) L) key.data.toList).isSome = (mget X.notes key.data.toList).isSome := by
    rw [hL, mget_mmap, mget_mmap, Option.isSome_map, Option.isSome_map]
  have hS2 : Srt (mmap (fun x : Value × List UInt8 => x.1) L) := by
    have h3 : (X.notes.map (·.1)) = (mmap (fun x : Value × List UInt8 => x.1) L).map (·.1) := by
      rw [hL]
      simp [mmap]
    unfold Srt at hsn ⊢
    have h4 := List.pairwise_map.2 hsn
    rw [h3] at h4
    exact List.pairwise_map.1 h4
  refine (put_yes (n := n) hs h1.disk h1.now hok hN hG hng hS2 (by rw [mmap_length]; rw [hL, mmap_length] at hln; exact hln) hlg (fun x hx => ?_) hdd key hk0 hk1 v l hv hl ?_).mono ?_
  · obtain ⟨y, hy, rfl⟩ := List.mem_map.1 hx
    obtain ⟨g, cap, cur, hv, _⟩ := hP y hy
    exact ⟨_, _, _, hv⟩
  · rw [hg2, newNotes_map, ← hL]
    exact hroom
  · rintro e w' ⟨rfl, nv, b1, b2, b3, k⟩
    have hF : ∀ g, (g = nb ∨ g = gb) → g ∈ s :: (Sd ++ [nb, gb]) := fun g e => by rcases e with rfl | rfl <;> simp
    obtain ⟨r1, r2⟩ := h1.rest k hF
    have hk' : Keeps (· ∈ s :: (Sd ++ ([nb, gb] ++ pv.ownBlock.toList))) w w' := k.weaken fun g _ e => by rcases e with rfl | rfl <;> simp
    have hsn : Blk w' s _ _ := Blk.keeps hs k (fun e => by
      rcases e with rfl | rfl
      · exact hN.not_blk hs
      · exact MapAt.not_blk hG hs)
    refine ⟨rfl, _, _, StoParts.b_ (X := X.noted key.data.toList l) (T := [nb, gb]) ⟨by rw [show (X.noted key.data.toList l).opened = true from h2]; exact hsn, h1.disk_ k (fun g e => by rcases e with rfl | rfl <;> simp), r1, r2, .inr ⟨h2, nb, gb, rfl, rfl, rfl, hng, ⟨mput L key.data.toList (nv, l), ?_, ?_, ?_⟩, b3⟩, h1.mbT, h1.pinT⟩, fun k hk => .inl hk, .inl rfl, hk'⟩
    · rw [mmap_mput]
      exact b2
    · show mput X.notes _ _ = _
      rw [mmap_mput, hL]
    · intro x hx
      rcases mput_mem hx with rfl | ⟨hx, _⟩
      · exact b1.mono fun g hg => DiskAt.fresh_ h1.disk g hg
      · exact (hP x hx).keeps k fun g cs e _ hb => by
          rcases e with rfl | rfl
          · exact hN.not_blk hb
          · exact MapAt.not_blk hG hb
theorem stob_commit {P : Nat → Prop} {w : World} {s d : Nat} {X : Sto} {O : List Nat} {mb : Nat} (h : StoB P w s d X O mb) (hdd : isDead X.life X.disk = false) (hop : X.opened = true)
    (hok : StOk X.disk.blocks.length X.now) (hoks : ∀ x ∈ X.pins, StOk X.disk.blocks.length x) (hpn : X.pins.length ≤ 1000) (hsn : Srt X.notes) (hsg : Srt X.gone) (hkn : ∀ x ∈ X.notes, x.1.length ≤ 64 ∧ x.2.length ≤ 65536) (hln : X.notes.length ≤ 512)
    (hok' : ∀ st', X.now.next X.notes X.gone (freeOf X.disk.blocks.length (X.now :: X.pins)) = some st' → StOk X.disk.blocks.length st') (hsm : Small X.disk 3000) :
    Calls Tryz.prog 21 #[.pointer (some ⟨s, 0, none⟩)] w fun e w' => e = .returned (.int .i64 X.commit.1) ∧ StoBPost P w s d X.commit.2 O mb w' := by
  obtain ⟨Sd, T, a, pv, nv, gv, h1, rfl⟩ := h
  have hs := h1.hs
  rcases h1.trans with ⟨h2, _⟩ | ⟨h2, nb, gb, rfl, rfl, rfl, hng, hN, hG⟩
  · rw [h2] at hop
    cases hop
  rw [h2] at hs
  refine (commit_calls hs h1.disk h1.now h1.hpins hN.w hG hok hoks (by rw [h1.hpins.len]; exact hpn) hsn hsg hkn hln hok' hdd hsm).mono ?_
  intro e w' hC
  unfold Sto.commit
  obtain ⟨C, hCe⟩ : ∃ C, C = X.disk.commit X.now X.notes X.gone X.pins := ⟨_, rfl⟩
  rw [← hCe] at hC ⊢
  clear hCe
  obtain ⟨c, D', R⟩ := C
  obtain ⟨rfl, ⟨S', hD', hS'⟩, k, hR⟩ := hC
  have hF : ∀ g, (g = s ∨ g ∈ Sd) → g ∈ s :: (Sd ++ [nb, gb]) := fun g e => by rcases e with rfl | e <;> simp [*]
  obtain ⟨r1, r2⟩ := h1.rest k hF
  have hk' : Keeps (· ∈ s :: (Sd ++ ([nb, gb] ++ pv.ownBlock.toList))) w w' := k.weaken fun g _ e => by rcases e with rfl | e <;> simp [*]
  rcases hR with ⟨hR, hS⟩ | ⟨st', a', mb', hR, hS, hst, ha', hmb'⟩
  · have hR : R = none := hR
    subst hR
    have hnf : ∀ g M, MapAt w g M → ¬ (g = s ∨ g ∈ Sd) := fun g M hM e => by
      rcases e with rfl | e
      · exact hM.not_blk hs
      · obtain ⟨t, cs, hb, _⟩ := h1.disk.lt _ e
        exact hM.not_blk hb
    have hN' : NotesP P w' nb X.notes := hN.keeps k (fun g cs e _ hb => by
      rcases e with rfl | e
      · exact absurd (hb.det hs).2 (by decide)
      · exact h1.disk.no (by decide) (by decide) (by decide) e hb) (by obtain ⟨L, hM, _⟩ := hN; exact hnf _ _ hM)
    refine ⟨rfl, _, _, StoParts.b_ (X := { X with disk := D' }) (T := [nb, gb]) (Sd := S') ⟨by rw [show ({ X with disk := D' } : Sto).opened = true from h2]; exact hS, hD', r1, r2, .inr ⟨h2, nb, gb, rfl, rfl, rfl, hng, hN', MapAt.keeps hG k (hnf _ _ hG)⟩, h1.mbT, h1.pinT⟩, ?_, .inl rfl, hk'⟩
    intro i hi
    simp only [List.mem_cons, List.mem_append] at hi ⊢
    rcases hi with h | h | h | h
    · exact .inl (.inl h)
    · rcases hS' i h with h | h
      · exact .inl (.inr (.inl h))
      · exact .inr h
    · exact .inl (.inr (.inr (.inl h)))
    · exact .inl (.inr (.inr (.inr h)))
  · have hR : R = some st' := hR
    subst hR
    refine ⟨rfl, _, _, StoParts.b_ (X := { X with disk := D', now := st', opened := false, notes := [], gone := [] }) (T := []) (Sd := S') ⟨hS, hD', hst, r2, .inl ⟨rfl, rfl, rfl, rfl⟩, by simp, by simp⟩, ?_, .inr hmb', hk'⟩
    intro i hi
    simp only [List.mem_cons, List.mem_append, List.not_mem_nil, false_or] at hi ⊢
    rcases hi with h | h | h
    · exact .inl (.inl h)
    · rcases hS' i h with h | h
      · exact .inl (.inr (.inl h))
      · exact .inr h
    · exact .inl (.inr (.inr (.inr h)))

/-! ### a bench whose map is named -/
abbrev ft (g : Nat) (O S : List Nat) : Nat → Prop := foot g O S (.slice none 0 0)
structure BnB (w0 w : World) (g d s r : Nat) (X : Sto) (R : RSto) (O S : List Nat) (mb : Nat) : Prop where
  bn : Bn w0 w g d s r X [] R [] O S (.slice none 0 0)
  sb : StoB (w0.heap.size ≤ ·) w s d X O mb
/-- What a call of the bench leaves. -/
def BPost (w0 w : World) (g d s r : Nat) (O S : List Nat) (mb : Nat) (X' : Sto) (R' : RSto) (w' : World) : Prop :=
  ∃ O' S' mb', BnB w0 w' g d s r X' R' O' S' mb' ∧ (∀ k, ft g O' S' k → ft g O S k ∨ w.heap.size ≤ k) ∧ (mb' = mb ∨ w.heap.size ≤ mb') ∧ Keeps (ft g O S) w w'
section
variable {w0 w w1 w' : World} {g d s r : Nat} {X X' : Sto} {R R' : RSto} {O S O1 S1 : List Nat} {mb m1 : Nat} {F : Nat → Prop}
theorem Bn.foot_no2 (h : Bn w0 w g d s r X [] R [] O S (.slice none 0 0)) : ∀ q, ft g O S q → ∀ t cs, Blk w q t cs → t ≠ 3 ∧ t ≠ 133 ∧ t ≠ 103 ∧ t ≠ 5 ∧ t ≠ 114 := by
  intro q hq t cs hb
  rcases hq with rfl | hq | hq | hq
  · rw [(hb.det h.bench).2]
    exact ⟨by decide, by decide, by decide, by decide, by decide⟩
  · simp [Value.ownBlock] at hq
  · rcases h.ltO q hq t cs hb with e | e | e | e | e
    all_goals
      subst e
      exact ⟨by decide, by decide, by decide, by decide, by decide⟩
  · obtain ⟨t', cs', hb', ht⟩ := h.ref.own q hq
    rw [(hb.det hb').2]
    rcases ht with e | e
    all_goals
      subst e
      exact ⟨by decide, by decide, by decide, by decide, by decide⟩
theorem Bn.ft_lt (h : Bn w0 w g d s r X [] R [] O S (.slice none 0 0)) : ∀ q, ft g O S q → q < w.heap.size := by
  intro q hq
  rcases hq with rfl | hq | hq | hq
  · exact Blk.lt h.bench
  · simp [Value.ownBlock] at hq
  · exact h.sto.lt_ q hq
  · obtain ⟨t', cs', hb', ht⟩ := h.ref.own q hq
    exact hb'.lt
theorem Bn.ft_new (h : Bn w0 w g d s r X [] R [] O S (.slice none 0 0)) : ∀ q, ft g O S q → w0.heap.size ≤ q := by
  intro q hq
  rcases hq with rfl | hq | hq | hq
  · exact h.newg
  · simp [Value.ownBlock] at hq
  · exact h.newO q hq
  · exact h.newS q hq
/-- A bench stays, where blocks turn that are not its own. -/
theorem BnB.keeps (h : BnB w0 w g d s r X R O S mb) (k : Keeps F w w') (h0 : ∀ q, F q → w0.heap.size ≤ q) (hF : ∀ q, F q → ¬ ft g O S q) (hm : ¬ F mb) (hT : ∀ q t cs, F q → Blk w q t cs → t ≠ 3 ∧ t ≠ 133 ∧ t ≠ 103 ∧ t ≠ 5 ∧ t ≠ 114) : BnB w0 w' g d s r X R O S mb := by
  have hsb : StoB (w0.heap.size ≤ ·) w' s d X O mb := h.sb.keeps k (fun q hq e => hF q hq (.inr (.inr (.inl e)))) hm fun q t cs hq hb => let z := hT q t cs hq hb; ⟨z.1, z.2.1, z.2.2.1, z.2.2.2.1⟩
  refine ⟨⟨Nat.le_trans h.bn.size k.size, below_keeps h.bn.kept k h.bn.size h0, hsb.n_, h.bn.nod, fun q hq => by simp at hq, h.bn.ref.keeps k (fun q hq e => hF q hq (.inr (.inr (.inr e)))) fun q t cs hq hb => let z := hT q t cs hq hb; ⟨z.2.2.2.2, z.2.2.2.1⟩, Blk.keeps h.bn.bench k fun e => hF g e (.inl rfl), ownsRow_keeps h.bn.row k fun q hq e => hF q e (.inr (.inl hq)), h.bn.apart, h.bn.newO, h.bn.newS, h.bn.newg⟩, hsb⟩
theorem BnB.below (h : BnB w0 w g d s r X R O S mb) (hb : Below w.heap.size w w') : BnB w0 w' g d s r X R O S mb :=
  h.keeps (F := fun _ => False) (Keeps.of_below hb) (fun _ h => h.elim) (fun _ h => h.elim) id fun _ _ _ h => h.elim
theorem BPost.below (h : BnB w0 w g d s r X R O S mb) (hb : Below w.heap.size w w') : BPost w0 w g d s r O S mb X R w' :=
  ⟨O, S, mb, h.below hb, fun _ hk => .inl hk, .inl rfl, Keeps.of_below hb⟩
theorem BPost.trans (hk : ∀ k, ft g O1 S1 k → ft g O S k ∨ w.heap.size ≤ k) (hm : m1 = mb ∨ w.heap.size ≤ m1) (k1 : Keeps (ft g O S) w w1) (h : BPost w0 w1 g d s r O1 S1 m1 X R w') : BPost w0 w g d s r O S mb X R w' := by
  obtain ⟨O2, S2, m2, h2, h3, h4, k2⟩ := h
  refine ⟨O2, S2, m2, h2, fun k hk2 => ?_, ?_, k1.trans k2 fun i hi hg => ?_⟩
  · rcases h3 k hk2 with h | h
    · exact hk k h
    · exact .inr (Nat.le_trans k1.size h)
  · rcases h4 with rfl | h
    · exact hm
    · exact .inr (Nat.le_trans k1.size h)
  · rcases hk i hg with h | h
    · exact h
    · omega
/-- A call of the store. -/
theorem BPost.sto (h : BnB w0 w g d s r X R O S mb) (hp : StoBPost (w0.heap.size ≤ ·) w s d X' O mb w') : BPost w0 w g d s r O S mb X' R w' := by
  obtain ⟨O', mb', h1, h2, h3, k⟩ := hp
  have hS : ∀ q, q ∈ O → q ∉ S := fun q hq hs => by
    obtain ⟨t, cs, hb, ht⟩ := h.bn.ref.own q hs
    have := h.bn.ltO q hq t cs hb
    rcases ht with e | e
    all_goals
      subst e
      rcases this with e | e | e | e | e
      all_goals exact absurd e (by decide)
  have hbn : Bn w0 w' g d s r X' [] R [] O' S (.slice none 0 0) := by
    refine ⟨Nat.le_trans h.bn.size k.size, below_keeps h.bn.kept k h.bn.size h.bn.newO, h1.n_, List.nodup_nil, fun q hq => by simp at hq, h.bn.ref.keeps k hS fun q t cs hq hb => ?_, Blk.keeps h.bn.bench k fun e => ?_, ownsRow_keeps h.bn.row k fun q hq e => by simp [Value.ownBlock] at hq, fun q hq => by simp [Value.ownBlock] at hq, fun q hq => ?_, h.bn.newS, h.bn.newg⟩
    · have z := h.bn.foot_no2 q (.inr (.inr (.inl hq))) t cs hb
      exact ⟨z.2.2.2.2, z.2.2.2.1⟩
    · rcases h.bn.ltO g e _ _ h.bn.bench with e | e | e | e | e
      all_goals exact absurd e (by decide)
    · rcases h2 q hq with e | e
      · exact h.bn.newO q e
      · exact Nat.le_trans h.bn.size e
  refine ⟨O', S, mb', ⟨hbn, h1⟩, fun q hq => ?_, h3, k.weaken fun q _ e => .inr (.inr (.inl e))⟩
  rcases hq with e | e | e | e
  · exact .inl (.inl e)
  · exact .inl (.inr (.inl e))
  · rcases h2 q e with e | e
    · exact .inl (.inr (.inr (.inl e)))
    · exact .inr e
  · exact .inl (.inr (.inr (.inr e)))
/-- A call of the specification. -/
theorem BPost.ref (h : BnB w0 w g d s r X R O S mb) (hp : RefPost w r R' S w') : BPost w0 w g d s r O S mb X R' w' := by
  obtain ⟨S', h1, h2, k⟩ := hp
  have hblk : ∀ q ∈ S, ∀ t cs, Blk w q t cs → t = 51 ∨ t = 48 := fun q hq t cs hb => by
    obtain ⟨t', cs', hb', ht⟩ := h.bn.ref.own q hq
    rw [(hb.det hb').2]
    exact ht
  have hO : ∀ q, q ∈ S → q ∉ O := fun q hs hq => by
    obtain ⟨t, cs, hb, ht⟩ := h.bn.ref.own q hs
    have := h.bn.ltO q hq t cs hb
    rcases ht with e | e
    all_goals
      subst e
      rcases this with e | e | e | e | e
      all_goals exact absurd e (by decide)
  have hmS : mb ∉ S := fun e => by
    obtain ⟨t, cs, hb, ht⟩ := h.bn.ref.own mb e
    obtain ⟨M, hM⟩ := h.sb.map
    exact hM.not_blk hb
  have hsb : StoB (w0.heap.size ≤ ·) w' s d X O mb := h.sb.keeps k hO hmS fun q t cs hq hb => by
    rcases hblk q hq t cs hb with e | e
    all_goals
      subst e
      exact ⟨by decide, by decide, by decide, by decide⟩
  refine ⟨O, S', mb, ⟨⟨Nat.le_trans h.bn.size k.size, below_keeps h.bn.kept k h.bn.size h.bn.newS, hsb.n_, h.bn.nod, fun q hq => by simp at hq, h1, Blk.keeps h.bn.bench k fun e => ?_, ownsRow_keeps h.bn.row k fun q hq e => by simp [Value.ownBlock] at hq, h.bn.apart, h.bn.newO, fun q hq => ?_, h.bn.newg⟩, hsb⟩, fun q hq => ?_, .inl rfl, k.weaken fun q _ e => .inr (.inr (.inr e))⟩
  · rcases hblk g e _ _ h.bn.bench with e | e
    all_goals exact absurd e (by decide)
  · rcases h2 q hq with e2 | e2
    · exact h.bn.newS q e2
    · exact Nat.le_trans h.bn.size e2
  · rcases hq with e | e | e | e
    · exact .inl (.inl e)
    · exact .inl (.inr (.inl e))
    · exact .inl (.inr (.inr (.inl e)))
    · rcases h2 q e with e | e
      · exact .inl (.inr (.inr (.inr e)))
      · exact .inr e
end

/-! ### two benches -/
/-- Two benches in one memory that have no block in common. -/
def Duo (w0 w : World) (gb db sb rb : Nat) (Xb : Sto) (Rb : RSto) (gc dc sc rc : Nat) (Xc : Sto) (Rc : RSto) : Prop :=
  ∃ Ob Sb mb Oc Sc mc, BnB w0 w gb db sb rb Xb Rb Ob Sb mb ∧ BnB w0 w gc dc sc rc Xc Rc Oc Sc mc ∧ (∀ k, ft gb Ob Sb k → ¬ ft gc Oc Sc k) ∧ ¬ ft gc Oc Sc mb ∧ ¬ ft gb Ob Sb mc
section
variable {w0 w w' : World} {gb db sb rb gc dc sc rc : Nat} {Xb Xb' Xc Xc' : Sto} {Rb Rb' Rc Rc' : RSto}
theorem Duo.swap (h : Duo w0 w gb db sb rb Xb Rb gc dc sc rc Xc Rc) : Duo w0 w gc dc sc rc Xc Rc gb db sb rb Xb Rb := by
  obtain ⟨Ob, Sb, mb, Oc, Sc, mc, h1, h2, h3, h4, h5⟩ := h
  exact ⟨Oc, Sc, mc, Ob, Sb, mb, h2, h1, fun k hk e => h3 k e hk, h5, h4⟩
theorem Duo.below (h : Duo w0 w gb db sb rb Xb Rb gc dc sc rc Xc Rc) (hb : Below w.heap.size w w') : Duo w0 w' gb db sb rb Xb Rb gc dc sc rc Xc Rc := by
  obtain ⟨Ob, Sb, mb, Oc, Sc, mc, h1, h2, h3⟩ := h
  exact ⟨Ob, Sb, mb, Oc, Sc, mc, h1.below hb, h2.below hb, h3⟩
/-- A call of the one. -/
theorem Duo.call (h : Duo w0 w gb db sb rb Xb Rb gc dc sc rc Xc Rc) {E : Ending → Prop} {f : Nat} {av : Array Value} (hc : ∀ O S mb, BnB w0 w gb db sb rb Xb Rb O S mb → Calls Tryz.prog f av w fun e w' => E e ∧ BPost w0 w gb db sb rb O S mb Xb' Rb' w') :
    Calls Tryz.prog f av w fun e w' => E e ∧ Duo w0 w' gb db sb rb Xb' Rb' gc dc sc rc Xc Rc := by
  obtain ⟨Ob, Sb, mb, Oc, Sc, mc, h1, h2, h3, h4, h5⟩ := h
  refine (hc Ob Sb mb h1).mono ?_
  rintro e w' ⟨he, O', S', m', p1, p2, p3, k⟩
  refine ⟨he, O', S', m', Oc, Sc, mc, p1, h2.keeps k h1.bn.ft_new h3 h5 fun q t cs hq hb => h1.bn.foot_no2 q hq t cs hb, fun q hq e => ?_, fun e => ?_, fun e => ?_⟩
  · rcases p2 q hq with p | p
    · exact h3 q p e
    · have := h2.bn.ft_lt q e
      omega
  · rcases p3 with rfl | p
    · exact h4 e
    · have := h2.bn.ft_lt _ e
      omega
  · rcases p2 mc e with p | p
    · exact h5 p
    · have := h2.sb.lt_
      omega
end

end Go.Proofs.YtbgiklkpinflaaaGreat
