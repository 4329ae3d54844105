/- (*Disk).Write. -/
import Derived.Test.YtbgiklkpinflaaaDisk3
namespace Go.Proofs.Ytbgiklkpinflaaa
open Go.RowKit
attribute [local go_sem ↓] Go.wp_at_zero Go.wp_at_succ

/-- What a write that is noted leaves. -/
theorem write_after {P : Nat → Prop} {w w1 w2 w3 : World} {b : Nat} {E : Dsk} {g1 : Nat} {cur1 : Array Value} {pv : Value} {ps : List (Nat × Value)} {i : Nat} {l : List UInt8} {v : Value} {o : Obj} {gg cap2 : Nat}
    (hr : DiskRep P w1 b E g1 cur1 pv ps) (ho : DskOk E) (hk1 : Keeps (· = b) w w1) (hk2 : Keeps (fun _ => False) w1 w2) (hB : BytesAt P w2 v l) (hl : l.length = 256) (hi : i < E.blocks.length)
    (hown3 : w3.ownsRow 0 109 2 (.slice (some ⟨gg, 0, none⟩) (E.pending.length + 1) cap2) (E.pending.length + 1) (penCells ps ++ [.int .i64 (i : Int), v])) (hgrow : (w2.alloc o).grownBy w3 pv.ownBlock)
    (hat : pv.ownBlock = some gg ∨ gg = w2.heap.size + 1) :
    After P w (w3.setCell ⟨b, 1, none⟩ (.slice (some ⟨gg, 0, none⟩) (E.pending.length + 1) cap2)) b { E with pending := E.pending ++ [(i, l)] } (b :: g1 :: pv.ownBlock.toList) := by
  have hw1 : w.heap.size ≤ w1.heap.size := hk1.size
  have k3 : Keeps (fun k => pv.ownBlock = some k) w1 w3 := (hk2.weaken (F := fun k => pv.ownBlock = some k) (fun _ _ h => h.elim)).alloc o |>.grown hgrow (fun g h _ => h)
  have B3 : Blk w3 b 99 _ := hr.hb.keeps k3 hr.ne2
  have hne : gg ≠ b := fun e => own_blk_ne hown3 B3 (by decide) (by simp [Value.ownBlock, e])
  have k4 : Keeps (fun k => k = b ∨ pv.ownBlock = some k) w1 (w3.setCell ⟨b, 1, none⟩ (.slice (some ⟨gg, 0, none⟩) (E.pending.length + 1) cap2)) :=
    (k3.weaken (fun _ _ h => .inr h)).setCell (p := ⟨b, 1, none⟩) (fun _ => .inl rfl) _
  have k5 : Keeps (fun k => k = b ∨ pv.ownBlock = some k) w2 (w3.setCell ⟨b, 1, none⟩ (.slice (some ⟨gg, 0, none⟩) (E.pending.length + 1) cap2)) :=
    (((Keeps.refl (fun k => pv.ownBlock = some k) w2).alloc o |>.grown hgrow (fun g h _ => h)).weaken (fun _ _ h => .inr h)).setCell (p := ⟨b, 1, none⟩) (fun _ => .inl rfl) _
  have hU : ∀ g cs, (g = b ∨ pv.ownBlock = some g) → P g → Blk w1 g 5 cs → False := fun g cs hg _ hk => hr.noBytes g cs (by rcases hg with rfl | hg <;> simp [*]) hk
  have hU2 : ∀ g cs, (g = b ∨ pv.ownBlock = some g) → P g → Blk w2 g 5 cs → False := fun g cs hg _ hk => by
    have h2 : DiskRep P w2 b E g1 cur1 pv ps := hr.keeps hk2 (fun _ _ => id) (fun _ _ h _ _ => h)
    exact h2.noBytes g cs (by rcases hg with rfl | hg <;> simp [*]) hk
  refine ⟨[b, g1, gg], ⟨⟨ho.blk, ?_, ho.some_, ho.few, ho.armedLe⟩, g1, cur1, .slice (some ⟨gg, 0, none⟩) (E.pending.length + 1) cap2, ps ++ [(i, v)], rfl, ?_⟩, ?_, ?_⟩
  · intro p hp
    rcases List.mem_append.1 hp with h | h
    · exact ho.pen p h
    · simp only [List.mem_singleton] at h
      subst h
      exact ⟨hi, hl⟩
  · refine ⟨B3.set_ 1 _, hr.hg.keeps k4 (by rintro (h | h); exact hr.ne1 h.symm; exact hr.ne3 h), hr.le, ?_, ?_, ?_, ?_, ?_⟩
    · intro k l' hk
      obtain ⟨v', hv', hB'⟩ := hr.bl k l' hk
      exact ⟨v', hv', hB'.keeps k4 hU⟩
    · have h4 := ownsRow_keeps hown3 ((Keeps.refl (· = b) w3).setCell (p := ⟨b, 1, none⟩) (fun _ => rfl) (.slice (some ⟨gg, 0, none⟩) (E.pending.length + 1) cap2)) (by intro g hg e; simp [Value.ownBlock] at hg; omega)
      rw [penCells_append]
      simpa [penCells] using h4
    · simp [hr.pb]
    · intro k p hp
      simp only at hp
      rw [List.getElem?_append] at hp ⊢
      rw [hr.pslen]
      split at hp
      · rename_i hlt
        obtain ⟨v', hv', hB'⟩ := hr.pl k p hp
        rw [if_pos hlt]
        exact ⟨v', hv', hB'.keeps k4 hU⟩
      · rename_i hge
        rw [if_neg hge]
        rcases Nat.eq_zero_or_pos (k - E.pending.length) with h0 | h0
        · rw [h0] at hp ⊢
          simp only [List.getElem?_cons_zero, Option.some.injEq] at hp
          subst hp
          exact ⟨v, rfl, hB.keeps k5 hU2⟩
        · rw [List.getElem?_eq_none (by simp; omega)] at hp
          cases hp
    · exact fun i hi => hr.fresh i (Nat.le_trans k4.size hi)
  · intro k hk
    simp only [List.mem_cons, List.not_mem_nil, or_false] at hk
    rcases hk with rfl | rfl | rfl
    · exact .inl (by simp)
    · exact .inl (by simp)
    · rcases hat with h | h
      · exact .inl (by simp [h])
      · have := hk2.size
        exact .inr (by omega)
  · refine (hk1.weaken (F := (· ∈ b :: g1 :: pv.ownBlock.toList)) (fun k _ h => by simp [h])).trans k4 (fun k _ h => ?_)
    rcases h with rfl | h
    · simp
    · simp [h]

set_option maxHeartbeats 2000000 in
set_option maxRecDepth 100000 in
/-- The write is noted, unless the call is the one that fails. -/
theorem write_good {P : Nat → Prop} {b : Nat} {D : Dsk} {g1 : Nat} {cur1 : Array Value} {pv : Value} {ps : List (Nat × Value)} (w : World) (h : DiskRep P w b D g1 cur1 pv ps) (ho : DskOk D) (hl : D.life ≤ 4611686018427387904) (hd : D.down = false)
    (i : Nat) (hi : i < D.blocks.length) (hn : D.pending.length ≤ 1000000000) (gb ob cb : Nat) (l : List UInt8) (hb : l.length = 256) (hc : Cells w gb ob (l.map bv)) (hgb : gb ≠ b) :
    Calls Try.prog 37 #[.pointer (some ⟨b, 0, none⟩), .int .i64 (i : Int), .slice (some ⟨gb, ob, none⟩) 256 cb] w fun e w' =>
      e = .returned (.int .i64 (D.write i l).1) ∧ After P w w' b (D.write i l).2 (b :: g1 :: pv.ownBlock.toList) := by
  have hf := ho.few
  have hs := ho.some_
  have h0 := h.c0
  have h3 := h.c3
  rw [hd] at h3
  have i0 : decide ((i : Int) < 0) = false := by simp
  have i1 : decide ((D.blocks.length : Int) ≤ (i : Int)) = false := by simpa using hi
  have HF := Lib.hid (fails_calls h ho hl)
  have HE : Hid (D.write i l = if D.fails.1 then (50, D.fails.2) else (0, { D.fails.2 with pending := D.fails.2.pending ++ [(i, l)] })) := by
    show D.write i l = _
    unfold Dsk.write
    rw [hd, if_neg (by simp), if_neg (by simp; omega)]
    simp
  have h256 : (((256 : Nat) : Int) != 256) = false := by decide
  have HC : Hid (Cells w gb ob (l.map bv)) := hc
  clear hc
  obtain ⟨iw, hiw, hz0, hz1, hz2⟩ := info_parts Try.infoWrite
  cases hff : D.fails.1
  · rw [hff] at HF HE
    simp only [Bool.false_eq_true, if_false] at HE
    go_enter Try.func37, Try.ntmps37
    go_wp2_with (first
      | (go_at_call 55; refine (down_any b _ _ _ false _ h0 hs hf h3).mono ?_; rintro e wx ⟨rfl, rfl⟩)
      | (go_at_call 67; refine HF.out.mono ?_; rintro e w1 ⟨rfl, hr1, hk1⟩; clear HF))
    have h1 := hr1.c1
    have f1 := hr1.hb.frozen 1
    have hbl := hr1.hb.lt
    have HC1 : Hid (Cells w1 gb ob (l.map bv)) := HC.out.keeps hk1 hgb
    have hpl : D.fails.2.pending = D.pending := by unfold Dsk.fails; split; rfl; split <;> rfl
    have HP := Lib.hid hpl
    have hbk : D.fails.2.blocks = D.blocks := by unfold Dsk.fails; split; rfl; split <;> rfl
    have HBk := Lib.hid hbk
    clear hbk
    clear hpl
    have hn1 : D.fails.2.pending.length ≤ 1000000000 := by rw [HP.out]; exact hn
    have HR := Lib.hid hr1
    clear hr1
    have hl2 : l.length ≤ 70368744177664 := by omega
    have HL := Lib.hid hb
    clear hb
    go_region_law
      (first
        | (go_simp; go_at_call 31; refine (clone_bytes gb ob 256 cb l _ HL.out.symm hl2 ?_).mono ?_; exact HC1.out; rintro e w2 ⟨g', cap, rfl, hB, hbel⟩; have B2 := HR.out.hb.belowH hbel rfl hbl; have hc2 : w2.cell? ⟨b, 1, none⟩ = some pv := B2.cell 1; have hc2a : ∀ o, (w2.alloc o).cell? ⟨b, 1, none⟩ = some pv := fun o => (B2.alloc o).cell 1; have hf2 := B2.frozen 1)
        | (refine step_append_lies _ (by rfl) _ _ _ (by rfl) 0 109 iw _ 2 32 Try.underlying97 hiw hz0 hz1 hz2 rfl (by omega) pv D.fails.2.pending.length (penCells ps) (by rfl) (((ownsRow_keeps HR.out.own (Keeps.of_belowD hbel) (fun _ _ h => h)).alloc _).drew)
            ⟨w2.heap.size, 0, none⟩ 1 1 [.int .i64 (i : Int), .slice (some ⟨g', 0, none⟩) l.length cap] (by rfl) (by rfl) (World.news_of_block (cs := #[.int .i64 (i : Int), .slice (some ⟨g', 0, none⟩) l.length cap]) (t := 109) (fr := (0, 0)) (heap_alloc_new _ _)) (by simp [Value.oneCell'])
            (by omega) (by unfold maxLen; omega) (by omega) (by omega) (w2.heap.size + 1) (by simp) ?_; intro gg cap2 w3 hown3 hgrow hat hlt3; have B3 := (B2.alloc _).grown hgrow HR.out.ne2; have hc3 := (B3.at1 1 _ rfl).1; have hf3 := B3.frozen 1))
    all_goals
      go_wp2
      go_ret
      rw [HE.out]
      refine ⟨rfl, ?_⟩
      exact write_after HR.out ho.fails hk1 (Keeps.of_belowD hbel) (hB.mono HR.out.fresh) HL.out (by rw [HBk.out]; exact hi) hown3 hgrow hat
  · rw [hff] at HF HE
    simp only [if_true] at HE
    go_enter Try.func37, Try.ntmps37
    go_wp2_with (first
      | (go_at_call 55; refine (down_any b _ _ _ false _ h0 hs hf h3).mono ?_; rintro e wx ⟨rfl, rfl⟩)
      | (go_at_call 67; refine HF.out.mono ?_; rintro e w1 ⟨rfl, hr1, hk1⟩; clear HF))
    go_ret
    rw [HE.out]
    refine ⟨rfl, b :: g1 :: pv.ownBlock.toList, ⟨ho.fails, g1, cur1, pv, ps, rfl, hr1⟩, fun k hk => .inl hk, hk1.weaken ?_⟩
    intro k _ e
    simp [e]

end Go.Proofs.Ytbgiklkpinflaaa
