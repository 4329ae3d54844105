/- dead, ready, Generation, Begin. -/
import Derived.Test.YtbgiklkpinflaaaGreatFormat
namespace Go.Proofs.YtbgiklkpinflaaaGreat
open Go.RowKit Go.Shelf Go.Maps

/-- The store's own cells. -/
def StoBlk (w : World) (s d life a : Nat) (pv : Value) (op : Bool) (nv gv : Value) : Prop :=
  Blk w s 100 #[.pointer (some ⟨d, 0, none⟩), .int .i64 (life : Int), .pointer (some ⟨a, 0, none⟩), pv, .bool op, nv, gv]

theorem down_same {P : Nat → Prop} {w : World} {b : Nat} {D : Dsk} {S : List Nat} (h : DiskAt P w b D S) : Calls Tryz.prog 82 #[.pointer (some ⟨b, 0, none⟩)] w fun e w' => e = .returned (.bool D.down) ∧ w' = w :=
  (down_at h).mono fun _ _ ⟨h1, h2⟩ => ⟨h1, h2.symm⟩

/-- Is the store dead? -/
def isDead (life : Nat) (D : Dsk) : Bool := (life != D.life) || D.down

set_option maxRecDepth 100000 in
set_option maxHeartbeats 2000000 in
theorem dead_calls {P : Nat → Prop} {w : World} {s d life a : Nat} {pv nv gv : Value} {op : Bool} {D : Dsk} {S : List Nat} (hs : StoBlk w s d life a pv op nv gv) (hD : DiskAt P w d D S) :
    Calls Tryz.prog 60 #[.pointer (some ⟨s, 0, none⟩)] w fun e w' => e = .returned (.bool (isDead life D)) ∧ ∃ n, w' = w.drewN n := by
  have c0 : w.cell? ⟨s, 0, none⟩ = some (.pointer (some ⟨d, 0, none⟩)) := hs.cell 0
  have c1 : w.cell? ⟨s, 1, none⟩ = some (.int .i64 (life : Int)) := hs.cell 1
  have c2 : w.cell? ⟨s, 2, none⟩ = some (.pointer (some ⟨a, 0, none⟩)) := hs.cell 2
  have c4 := hD.life_
  by_cases hl : life = D.life
  · have t1 : ((life : Int) != (D.life : Int)) = false := by rw [hl]; simp
    have t2 : (life != D.life) = false := by simp [hl]
    have e1 : isDead life D = D.down := by unfold isDead; rw [t2]; rfl
    rw [e1]
    have HL := Lib.hid hl
    clear hl e1
    go_enter Tryz.func60, Tryz.ntmps60
    go_wp2
    go_quiet ((go_at_call 82; exact Calls.quiet_of_same (down_same (hD.below ((Below.refl _ w).drewN_ _)))))
    go_wp2
    go_ret
    exact ⟨rfl, _, rfl⟩
  · have t1 : ((life : Int) != (D.life : Int)) = true := by rw [bne_iff_ne]; omega
    have t2 : (life != D.life) = true := by simp [hl]
    have e1 : isDead life D = true := by unfold isDead; rw [t2]; rfl
    rw [e1]
    have HL := Lib.hid hl
    clear hl e1
    go_enter Tryz.func60, Tryz.ntmps60
    go_wp2
    go_quiet (fail)
    go_wp2
    go_ret
    exact ⟨rfl, _, rfl⟩

def readyCode (life : Nat) (D : Dsk) (op : Bool) : Int := if isDead life D then 50 else if op then 0 else 54

set_option maxRecDepth 100000 in
set_option maxHeartbeats 2000000 in
theorem ready_calls {P : Nat → Prop} {w : World} {s d life a : Nat} {pv nv gv : Value} {op : Bool} {D : Dsk} {S : List Nat} (hs : StoBlk w s d life a pv op nv gv) (hD : DiskAt P w d D S) :
    Calls Tryz.prog 70 #[.pointer (some ⟨s, 0, none⟩)] w fun e w' => e = .returned (.int .i64 (readyCode life D op)) ∧ ∃ n, w' = w.drewN n := by
  have c4 : w.cell? ⟨s, 4, none⟩ = some (.bool op) := hs.cell 4
  have HDD := Lib.hid (dead_calls hs hD)
  clear hs
  cases hdd : isDead life D
  · rw [hdd] at HDD
    have e1 : readyCode life D op = if op then 0 else 54 := by unfold readyCode; rw [hdd]; rfl
    rw [e1]
    clear e1 hdd
    cases op
    all_goals
      go_enter Tryz.func70, Tryz.ntmps70
      go_wp2_with (go_at_call 60; refine HDD.out.mono ?_; rintro e w' ⟨rfl, n, rfl⟩)
      go_ret
      exact ⟨rfl, _, rfl⟩
  · rw [hdd] at HDD
    have e1 : readyCode life D op = 50 := by unfold readyCode; rw [hdd]; rfl
    rw [e1]
    clear e1 hdd
    go_enter Tryz.func70, Tryz.ntmps70
    go_wp2_with (go_at_call 60; refine HDD.out.mono ?_; rintro e w' ⟨rfl, n, rfl⟩)
    go_ret
    exact ⟨rfl, _, rfl⟩

set_option maxRecDepth 100000 in
set_option maxHeartbeats 2000000 in
theorem generation_calls {P : Nat → Prop} {w : World} {s d life a mb : Nat} {pv nv gv : Value} {op : Bool} {D : Dsk} {S : List Nat} {st : St} (hs : StoBlk w s d life a pv op nv gv) (hD : DiskAt P w d D S) (hst : StateAt w a mb st) :
    Calls Tryz.prog 38 #[.pointer (some ⟨s, 0, none⟩)] w fun e w' => e = .returned (.int .i64 (if isDead life D then 0 else (st.gen : Int))) ∧ ∃ n, w' = w.drewN n := by
  have c2 : w.cell? ⟨s, 2, none⟩ = some (.pointer (some ⟨a, 0, none⟩)) := hs.cell 2
  obtain ⟨sv, hb, _⟩ := hst
  have c0 : w.cell? ⟨a, 0, none⟩ = some (.int .i64 (st.gen : Int)) := hb.cell 0
  have HDD := Lib.hid (dead_calls hs hD)
  clear hs hb
  cases hdd : isDead life D
  all_goals
    rw [hdd] at HDD
    clear hdd
    go_enter Tryz.func38, Tryz.ntmps38
    go_wp2_with (go_at_call 60; refine HDD.out.mono ?_; rintro e w' ⟨rfl, n, rfl⟩)
    go_ret
    exact ⟨rfl, _, rfl⟩

def beginCode (life : Nat) (D : Dsk) (op : Bool) : Int := if isDead life D then 50 else if op then 54 else 0

set_option maxRecDepth 100000 in
set_option maxHeartbeats 2000000 in
/-- Begin where it is refused. -/
theorem begin_no {P : Nat → Prop} {w : World} {s d life a : Nat} {pv nv gv : Value} {op : Bool} {D : Dsk} {S : List Nat} (hs : StoBlk w s d life a pv op nv gv) (hD : DiskAt P w d D S) (hno : isDead life D = true ∨ op = true) :
    Calls Tryz.prog 32 #[.pointer (some ⟨s, 0, none⟩)] w fun e w' => e = .returned (.int .i64 (beginCode life D op)) ∧ ∃ n, w' = w.drewN n := by
  have c4 : w.cell? ⟨s, 4, none⟩ = some (.bool op) := hs.cell 4
  have HDD := Lib.hid (dead_calls hs hD)
  clear hs
  cases hdd : isDead life D
  · have hop : op = true := by rcases hno with h | h; rw [hdd] at h; cases h; exact h
    subst hop
    rw [hdd] at HDD
    have e1 : beginCode life D true = 54 := by unfold beginCode; rw [hdd]; rfl
    rw [e1]
    clear e1 hdd hno
    go_enter Tryz.func32, Tryz.ntmps32
    go_wp2_with (go_at_call 60; refine HDD.out.mono ?_; rintro e w' ⟨rfl, n, rfl⟩)
    go_ret
    exact ⟨rfl, _, rfl⟩
  · rw [hdd] at HDD
    have e1 : beginCode life D op = 50 := by unfold beginCode; rw [hdd]; rfl
    rw [e1]
    clear e1 hdd hno
    go_enter Tryz.func32, Tryz.ntmps32
    go_wp2_with (go_at_call 60; refine HDD.out.mono ?_; rintro e w' ⟨rfl, n, rfl⟩)
    go_ret
    exact ⟨rfl, _, rfl⟩

set_option maxRecDepth 100000 in
set_option maxHeartbeats 2000000 in
/-- Begin: two new maps. -/
theorem begin_yes {P : Nat → Prop} {w : World} {s d life a : Nat} {pv nv gv : Value} {D : Dsk} {S : List Nat} (hs : StoBlk w s d life a pv false nv gv) (hD : DiskAt P w d D S) (hdd : isDead life D = false) :
    Calls Tryz.prog 32 #[.pointer (some ⟨s, 0, none⟩)] w fun e w' => e = .returned (.int .i64 0) ∧ StoBlk w' s d life a pv true (.map (some w.heap.size)) (.map (some (w.heap.size + 1))) ∧ MapAt w' w.heap.size [] ∧ MapAt w' (w.heap.size + 1) [] ∧ Keeps (· = s) w w' := by
  have c4 : w.cell? ⟨s, 4, none⟩ = some (.bool false) := hs.cell 4
  have HDD := Lib.hid (dead_calls hs hD)
  rw [hdd] at HDD
  have hmm := @run_makeMap Tryz.prog
  have HS : Hid (StoBlk w s d life a pv false nv gv) := hs
  have hlt := hs.lt
  clear hs hdd
  go_enter Tryz.func32, Tryz.ntmps32
  go_wp2_with (go_at_call 60; refine HDD.out.mono ?_; rintro e w1 ⟨rfl, n, hw1⟩; have hs1 : Blk w1 s 100 _ := (by rw [hw1]; exact Blk.drewN HS.out n); have HH : Hid (w1.heap = w.heap ∧ Keeps (· = s) w w1) := (by show w1.heap = w.heap ∧ Keeps (· = s) w w1; rw [hw1]; exact ⟨rfl, (Keeps.refl _ w).drewN n⟩); clear hw1; have j4 : w1.cell? ⟨s, 4, none⟩ = some (.bool false) := hs1.cell 4; have k4 : ∀ o1, (w1.alloc o1).cell? ⟨s, 4, none⟩ = some (.bool false) := fun o1 => (Blk.alloc hs1 o1).cell 4; have k5 : ∀ o1, (w1.alloc o1).cell? ⟨s, 5, none⟩ = some nv := fun o1 => (Blk.alloc hs1 o1).cell 5; have k6 : ∀ o1, (w1.alloc o1).cell? ⟨s, 6, none⟩ = some gv := fun o1 => (Blk.alloc hs1 o1).cell 6; have f4 : ∀ o1 o2, ((w1.alloc o1).alloc o2).frozen? ⟨s, 4, none⟩ = false := fun o1 o2 => ((Blk.alloc hs1 o1).alloc o2).frozen 4; have f5 : ∀ o1 o2, ((w1.alloc o1).alloc o2).frozen? ⟨s, 5, none⟩ = false := fun o1 o2 => ((Blk.alloc hs1 o1).alloc o2).frozen 5; have f6 : ∀ o1 o2, ((w1.alloc o1).alloc o2).frozen? ⟨s, 6, none⟩ = false := fun o1 o2 => ((Blk.alloc hs1 o1).alloc o2).frozen 6; have q4 : ∀ o1 o2, ((w1.alloc o1).alloc o2).cell? ⟨s, 4, none⟩ = some (.bool false) := fun o1 o2 => ((Blk.alloc hs1 o1).alloc o2).cell 4; have q5 : ∀ o1 o2, ((w1.alloc o1).alloc o2).cell? ⟨s, 5, none⟩ = some nv := fun o1 o2 => ((Blk.alloc hs1 o1).alloc o2).cell 5; have q6 : ∀ o1 o2, ((w1.alloc o1).alloc o2).cell? ⟨s, 6, none⟩ = some gv := fun o1 o2 => ((Blk.alloc hs1 o1).alloc o2).cell 6)
  go_ret
  have hsz : w.heap.size = w1.heap.size := by rw [HH.out.1]
  rw [hsz]
  have B := ((((Blk.alloc hs1 (.map #[] 0)).alloc (.map #[] 0)).set_ 4 (.bool true)).set_ 5 (.map (some w1.heap.size))).set_ 6 (.map (some (w1.heap.size + 1)))
  have k1 : Keeps (· = s) ((w1.alloc (.map #[] 0)).alloc (.map #[] 0)) (((((w1.alloc (.map #[] 0)).alloc (.map #[] 0)).setCell ⟨s, 4, none⟩ (.bool true)).setCell ⟨s, 5, none⟩ (.map (some w1.heap.size))).setCell ⟨s, 6, none⟩ (.map (some (w1.heap.size + 1)))) :=
    ((Keeps.set1 _ s 4 _).trans (Keeps.set1 _ s 5 _) (fun _ _ h => h)).trans (Keeps.set1 _ s 6 _) (fun _ _ h => h)
  have hlt1 := hs1.lt
  refine ⟨rfl, B, ?_, ?_, ?_⟩
  · refine ((MapAt.made w1).keeps (F := fun _ => False) ((Keeps.refl _ _).alloc _) id).keeps k1 ?_
    intro h
    omega
  · have h2 := MapAt.made (w1.alloc (.map #[] 0))
    rw [World.size_alloc] at h2
    refine h2.keeps k1 ?_
    intro h
    omega
  · exact HH.out.2.trans ((((Keeps.refl (· = s) w1).alloc _).alloc _).trans k1 (fun _ _ h => h)) (fun _ _ h => h)

end Go.Proofs.YtbgiklkpinflaaaGreat
