/- take (the closure of next). -/
import Derived.Test.YtbgiklkpinflaaaGreatGet
namespace Go.Proofs.YtbgiklkpinflaaaGreat
open Go.RowKit Go.Shelf Go.Maps
attribute [local go_sem ↓] Go.wp_at_zero Go.wp_at_succ

/-- A slice of numbers, wherever it begins. -/
def FreeAt (w : World) (v : Value) (l : List Nat) : Prop :=
  ∃ A c, v = .slice A l.length c ∧ l.length ≤ c ∧ c ≤ maxLen ∧ ((A = none ∧ c = 0) ∨ ∃ g o t cur, A = some ⟨g, o, none⟩ ∧ Blk w g t cur ∧ t = 3 ∧ Cells w g o (l.map Go.Proofs.YtbgiklkpinflaaaGreat.nv))
theorem FreeAt.keeps {F : Nat → Prop} {w w' : World} {v : Value} {l : List Nat} (h : FreeAt w v l) (k : Keeps F w w') (hF : ∀ g cs, F g → Blk w g 3 cs → False) : FreeAt w' v l := by
  obtain ⟨A, c, hv, h1, h2, h3⟩ := h
  refine ⟨A, c, hv, h1, h2, h3.imp id ?_⟩
  rintro ⟨g, o, t, cur, rfl, hb, rfl, hc⟩
  have hn : ¬ F g := fun hg => hF g cur hg hb
  exact ⟨g, o, _, cur, rfl, hb.keeps k hn, rfl, hc.keeps k hn⟩
theorem FreeAt.of_own {w : World} {base n : Nat} {v : Value} {l : List Nat} (h : w.ownsRow base 3 1 v n (l.map Go.Proofs.YtbgiklkpinflaaaGreat.nv)) : FreeAt w v l := by
  obtain ⟨h1, h2⟩ := h
  have hl : l.length = n := by simpa using h1
  subst hl
  rcases h2 with ⟨rfl, h0⟩ | ⟨g, cap, cur, rfl, hb, hg, hnc, hcm, hcs, ht⟩
  · exact ⟨none, 0, by rw [h0], by omega, Nat.zero_le _, .inl ⟨rfl, rfl⟩⟩
  · exact ⟨_, cap, rfl, hnc, hcm, .inr ⟨g, 0, _, cur, rfl, hg, rfl, take_cells (t := 3) hg (by simpa using ht)⟩⟩
theorem Cells.drop_ {w : World} {g o n : Nat} {l : List Nat} (h : Cells w g o (l.map Go.Proofs.YtbgiklkpinflaaaGreat.nv)) : Cells w g (o + n) ((l.drop n).map Go.Proofs.YtbgiklkpinflaaaGreat.nv) := by
  intro j u hj
  rw [List.map_drop, List.getElem?_drop] at hj
  have := h _ _ hj
  rwa [← Nat.add_assoc] at this
theorem Cells.take_ {w : World} {g o n : Nat} {l : List Nat} (h : Cells w g o (l.map Go.Proofs.YtbgiklkpinflaaaGreat.nv)) : Cells w g o ((l.take n).map Go.Proofs.YtbgiklkpinflaaaGreat.nv) := by
  intro j u hj
  rw [List.map_take, List.getElem?_take] at hj
  split at hj
  · exact h _ _ hj
  · cases hj
theorem oneCell_nv (l : List Nat) : ∀ u ∈ l.map Go.Proofs.YtbgiklkpinflaaaGreat.nv, u.oneCell' = true := by
  intro u hu
  obtain ⟨b, _, rfl⟩ := List.mem_map.1 hu
  rfl

set_option maxHeartbeats 2000000 in
theorem clone_ints (g o n c : Nat) (l : List Nat) (w : World) (hl : n = l.length) (hn : l.length ≤ 1000000) (hc : Cells w g o (l.map Go.Proofs.YtbgiklkpinflaaaGreat.nv)) :
    Calls Tryz.prog 110 #[.slice (some ⟨g, o, none⟩) n c] w fun e w' => ∃ v, e = .returned v ∧ NumsAt w' v l ∧ Below w.heap.size w w' := by
  subst hl
  obtain ⟨i0, hi, hz0, hz1, hz2⟩ := info_parts Tryz.infoInt
  have q : ∀ (w : World) (a : Option Addr) (n c n' c' : Nat), (binOp .eql 117 (.slice a n c) (.slice none n' c')).run Tryz.prog w = .ok (.bool a.isNone) w := fun w a n c n' c' => Lib.run_eql_slice_nil w _ _ a n c n' c' Tryz.underlying117
  have A : Hid (Cells w g o (l.map Go.Proofs.YtbgiklkpinflaaaGreat.nv)) := hc
  clear hc
  go_enter Tryz.func110, Tryz.ntmps110
  go_wp2_with (at_builtin; refine wpList_append_own _ rfl _ _ 117 rfl w.heap.size 3 i0 (.int .i64 0) 1 8 Tryz.underlying117 hi hz0 hz1 hz2 rfl (by decide) _ _ _ rfl (World.ownsRow_made w #[] 0 (Nat.le_refl _) (Nat.zero_le _) (by simp)) ⟨g, o, none⟩ l.length c (l.map Go.Proofs.YtbgiklkpinflaaaGreat.nv) rfl ?qc1 ?qc2 ?qc3 ?qc4 ?qc5 ?qc6 ?_)
  case qc1 => simp
  case qc2 =>
    intro j u hj
    rw [Addr.add_lit]
    exact Lib.cell?_alloc_some _ (A.out j u hj)
  case qc3 => exact oneCell_nv l
  case qc4 => unfold maxLen; omega
  case qc5 => omega
  case qc6 => simp
  intro v' w1 hown hgrow hnil
  go_wp2
  go_ret
  have hown' : w1.ownsRow w.heap.size 3 1 v' l.length (l.map Go.Proofs.YtbgiklkpinflaaaGreat.nv) := by simpa using hown
  exact ⟨v', rfl, NumsAt.of_own hown', ((Below.refl _ w).alloc (Nat.le_refl _) _).grown hgrow (by simp) (by intro k hk; simp [Value.ownBlock] at hk; omega)⟩

set_option maxHeartbeats 2000000 in
theorem clone_ints_nil (c : Nat) (w : World) :
    Calls Tryz.prog 110 #[.slice none 0 c] w fun e w' => e = .returned (.slice none 0 0) ∧ w = w' := by
  have q : ∀ (w : World) (a : Option Addr) (n c n' c' : Nat), (binOp .eql 117 (.slice a n c) (.slice none n' c')).run Tryz.prog w = .ok (.bool a.isNone) w := fun w a n c n' c' => Lib.run_eql_slice_nil w _ _ a n c n' c' Tryz.underlying117
  go_enter Tryz.func110, Tryz.ntmps110
  go_wp2
  go_ret
  exact ⟨rfl, rfl⟩

/-- The box of the free blocks. -/
theorem take_no {w : World} {fb n : Nat} {fv : Value} {l : List Nat} (hb : Blk w fb 117 #[fv]) (hf : FreeAt w fv l) (hn : l.length < n) :
    Calls Tryz.prog 109 #[.int .i64 (n : Int), .pointer (some ⟨fb, 0, none⟩)] w fun e w' => e = .returned (.tuple #[.slice none 0 0, .bool false]) ∧ w = w' := by
  obtain ⟨A, c, rfl, h1, h2, h3⟩ := hf
  have c0 : w.cell? ⟨fb, 0, none⟩ = some (.slice A l.length c) := hb.cell 0
  clear h3
  have hd : decide ((l.length : Int) < (n : Int)) = true := by simp; omega
  go_enter Tryz.func109, Tryz.ntmps109
  go_wp2
  go_ret2
  exact ⟨rfl, rfl⟩

def TakePost (w : World) (fb n : Nat) (l : List Nat) (e : Ending) (w' : World) : Prop :=
  ∃ v fv', e = .returned (.tuple #[v, .bool true]) ∧ NumsAt w' v (l.take n) ∧ Blk w' fb 117 #[fv'] ∧ FreeAt w' fv' (l.drop n) ∧ Keeps (· = fb) w w'

theorem take_end {w w2 : World} {fb n : Nat} {fv fv' v : Value} {l : List Nat} (hb : Blk w fb 117 #[fv]) (hb2 : Below w.heap.size w w2) (hv : NumsAt w2 v (l.take n)) (hf : FreeAt w fv' (l.drop n)) :
    TakePost w fb n l (.returned (.tuple #[v, .bool true])) (w2.setCell ⟨fb, 0, none⟩ fv') := by
  have hb2' := Blk.below hb hb2 hb.lt
  have k := Keeps.set1 w2 fb 0 fv'
  have hU : ∀ g cs, g = fb → Blk w2 g 3 cs → False := fun g cs e hk => by subst e; exact hk.ne_ hb2' (by decide) rfl
  exact ⟨v, fv', rfl, hv.keeps k hU, hb2'.set_ 0 _, (hf.keeps (Keeps.of_below (F := fun _ => False) hb2) (fun _ _ h => h.elim)).keeps k hU, (Keeps.of_below (F := (· = fb)) hb2).trans k (fun _ _ h => h)⟩

set_option maxRecDepth 100000 in
set_option maxHeartbeats 4000000 in
theorem take_yes {w : World} {fb n : Nat} {fv : Value} {l : List Nat} (hb : Blk w fb 117 #[fv]) (hf : FreeAt w fv l) (hn : n ≤ l.length) (hl : l.length ≤ 1000000) :
    Calls Tryz.prog 109 #[.int .i64 (n : Int), .pointer (some ⟨fb, 0, none⟩)] w (TakePost w fb n l) := by
  obtain ⟨A, c, rfl, h1, h2, h3⟩ := hf
  have c0 : w.cell? ⟨fb, 0, none⟩ = some (.slice A l.length c) := hb.cell 0
  have f0 := hb.frozen 0
  have hd : decide ((l.length : Int) < (n : Int)) = false := by simp; omega
  have HB := Lib.hid hb
  rcases h3 with ⟨rfl, rfl⟩ | ⟨g, o, t, cur, rfl, hbg, rfl, hc⟩
  · have hl0 : l = [] := List.eq_nil_of_length_eq_zero (by omega)
    subst hl0
    have hn0 : n = 0 := by simpa using hn
    subst hn0
    clear hb hn hl h1 h2
    go_enter Tryz.func109, Tryz.ntmps109
    go_wp2_with (go_at_call 110; refine (clone_ints_nil _ _).mono ?_; rintro e w' ⟨rfl, rfl⟩)
    go_ret2
    exact ⟨_, _, rfl, NumsAt.nil _, HB.out.set_ 0 _, ⟨none, 0, rfl, Nat.le_refl _, Nat.zero_le _, .inl ⟨rfl, rfl⟩⟩, Keeps.set1 w fb 0 _⟩
  · have HC := Lib.hid hc
    have HBG := Lib.hid hbg
    have htl : (l.take n).length = n := by rw [List.length_take]; omega
    have HTL := Lib.hid htl
    clear hc hbg htl
    obtain ⟨ll, hll⟩ : ∃ ll, ll = l.length := ⟨_, rfl⟩
    rw [← hll] at hn hl h1 hd c0 hb HB
    have HLL := Lib.hid hll
    clear hll hb
    by_cases hnc : n = c
    · subst hnc
      have hln : ll = n := by omega
      subst hln
      go_enter Tryz.func109, Tryz.ntmps109
      go_wp2_with (go_at_call 110; refine (clone_ints g o _ _ (l.take ll) _ HTL.out.symm ?_ HC.out.take_).mono ?_; (rw [HTL.out]; omega); rintro e w2 ⟨v, rfl, hv, hb2⟩; have hb2' := Blk.below HB.out hb2 (Blk.lt HB.out); have c02 : w2.cell? ⟨fb, 0, none⟩ = _ := hb2'.cell 0; have f02 := hb2'.frozen 0)
      go_ret2
      exact take_end HB.out hb2 hv ⟨_, 0, by rw [List.length_drop, ← HLL.out, Nat.sub_self], by rw [List.length_drop, ← HLL.out, Nat.sub_self]; exact Nat.le_refl _, Nat.zero_le _, .inr ⟨g, o, _, cur, rfl, HBG.out, rfl, by rw [List.drop_of_length_le (by rw [← HLL.out]; exact Nat.le_refl _)]; exact Cells.nil_⟩⟩
    · have hcn : ¬ c = n := fun e => hnc e.symm
      go_enter Tryz.func109, Tryz.ntmps109
      go_wp2_with (go_at_call 110; refine (clone_ints g o _ _ (l.take n) _ HTL.out.symm ?_ HC.out.take_).mono ?_; (rw [HTL.out]; omega); rintro e w2 ⟨v, rfl, hv, hb2⟩; have hb2' := Blk.below HB.out hb2 (Blk.lt HB.out); have c02 : w2.cell? ⟨fb, 0, none⟩ = _ := hb2'.cell 0; have f02 := hb2'.frozen 0)
      go_ret2
      exact take_end HB.out hb2 hv ⟨_, c - n, by rw [List.length_drop, ← HLL.out], by rw [List.length_drop, ← HLL.out]; omega, by omega, .inr ⟨g, o + n, _, cur, rfl, HBG.out, rfl, HC.out.drop_⟩⟩

end Go.Proofs.YtbgiklkpinflaaaGreat
