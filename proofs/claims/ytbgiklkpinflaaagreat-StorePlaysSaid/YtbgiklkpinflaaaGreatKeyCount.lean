/- keys: how many keys the transaction has. -/
import Derived.Test.YtbgiklkpinflaaaGreatRange
namespace Go.Proofs.YtbgiklkpinflaaaGreat
open Go.RowKit Go.Shelf Go.Maps

theorem step_mlen {ops : Array Oper} {o : Oper} {a : Act} {w : World} {K : Act → World → Prop} {Q : Exit → Act → World → Prop} {E : Prop} (hg : o.guard = none) (m : Operand) (t : TypeId) (hop : o.op = Op.call { callee := Callee.builtin Builtin.len, args := #[m], argTypes := #[t] }) (e : TypeId) (ht : Tryz.prog.underlying t = some (.map 9 e))
    (b : Nat) (M : List (List UInt8 × Value)) (hm : a.eval m = .map (some b)) (hM : MapAt w b M) (hK : K (a.put o.dst (.int .i64 (M.length : Int))) w) : if Region.wanted o (yielded ops a.tmps) = true then Oper.wp Tryz.prog o a w K Q else E := by
  have hw : Region.wanted o (yielded ops a.tmps) = true := by simp [Region.wanted, hg]
  rw [if_pos hw]
  have hl := World.ownsMap.len (H := Value) hM ht o.type
  rw [mapD_size] at hl
  unfold Oper.wp
  simp [execOp, hop, resolve, invoke, builtin, hm, hl, Result.andThen]
  exact hK

/-- How many of the notes' keys are new. -/
def newKeys (ps : List (List UInt8 × Place)) (l : List (List UInt8 × Value)) : Nat := (l.filter fun p => (mget ps p.1).isNone).length

/-- The loop over the notes. -/
def KeyLoop (w : World) (ps : List (List UInt8 × Place)) (Mn rem : List (List UInt8 × Value)) (wr : World) : Prop :=
  Below w.heap.size w wr ∧ newKeys ps rem ≤ newKeys ps Mn ∧ Srt rem ∧ w.heap.size < wr.heap.size

theorem newKeys_del {ps : List (List UInt8 × Place)} {rem : List (List UInt8 × Value)} (hs : Srt rem) {k : List UInt8} {v : Value} (h : (k, v) ∈ rem) : newKeys ps rem = newKeys ps (mdel rem k) + (if (mget ps k).isNone then 1 else 0) := by
  unfold newKeys
  have := ((srt_perm hs h).filter (fun p => (mget ps p.1).isNone)).length_eq
  rw [this, List.filter_cons]
  split
  · rfl
  · rfl
theorem key_round {w w1 wr : World} {nb : Nat} {ps : List (List UInt8 × Place)} {Mn rem : List (List UInt8 × Value)} {k : List UInt8} {v : Value} {x x' A : Int} (o : Obj) (hB1 : Below w.heap.size w w1) (hr1 : RangeAt w1 nb w.heap.size Mn (mdel rem k)) (hlt : w1.rangeLeft nb w.heap.size < wr.rangeLeft nb w.heap.size)
    (hle : newKeys ps rem ≤ newKeys ps Mn) (hs : Srt rem) (hmem : (k, v) ∈ rem) (hsz : w.heap.size < w1.heap.size) (hx : x = A + ((newKeys ps Mn : Int) - newKeys ps rem)) (e : x' = x + (if (mget ps k).isNone then 1 else 0)) :
    (∃ rem', RangeAt (w1.alloc o) nb w.heap.size Mn rem' ∧ Value.int .i64 x' = .int .i64 (A + ((newKeys ps Mn : Int) - newKeys ps rem')) ∧ KeyLoop w ps Mn rem' (w1.alloc o)) ∧ (w1.alloc o).rangeLeft nb w.heap.size < wr.rangeLeft nb w.heap.size := by
  obtain ⟨h1, h2⟩ := hr1.keeps (F := fun _ => False) ((Keeps.refl _ w1).alloc o) id id
  have hd := newKeys_del (ps := ps) hs hmem
  refine ⟨⟨mdel rem k, h1, ?_, hB1.alloc (by omega) o, by omega, hs.filter_ _, by simp; omega⟩, by rw [h2]; exact hlt⟩
  congr 1
  rw [e, hx, hd]
  split <;> omega

set_option maxRecDepth 100000 in
set_option maxHeartbeats 4000000 in
theorem keys_calls {w : World} {s d life a mb nb gb n : Nat} {pv : Value} {st : St} {Mn : List (List UInt8 × Value)} {gs : List (List UInt8 × Unit)} (hs : StoBlk w s d life a pv true (.map (some nb)) (.map (some gb))) (hst : StateAt w a mb st) (hok : StOk n st) (hN : MapAt w nb Mn) (hG : GoneAt w gb gs) (hsrt : Srt Mn) (hln : Mn.length ≤ 1000000) (hlg : gs.length ≤ 1000000) :
    Calls Tryz.prog 102 #[.pointer (some ⟨s, 0, none⟩)] w fun e w' => e = .returned (.int .i64 ((st.places.length : Int) - gs.length + newKeys st.places Mn)) ∧ Below w.heap.size w w' := by
  obtain ⟨sv, hb, _, l, hP, hps, hpl⟩ := hst
  have c2 : w.cell? ⟨s, 2, none⟩ = some (.pointer (some ⟨a, 0, none⟩)) := hs.cell 2
  have c5 : w.cell? ⟨s, 5, none⟩ = some (.map (some nb)) := hs.cell 5
  have c6 : w.cell? ⟨s, 6, none⟩ = some (.map (some gb)) := hs.cell 6
  have d1 : w.cell? ⟨a, 1, none⟩ = some (.map (some mb)) := hb.cell 1
  have hfew := hok.few
  have HPL : Hid ((mmap (fun x : Value × Place => x.1) l).length = st.places.length) := by
    show (mmap (fun x : Value × Place => x.1) l).length = st.places.length
    rw [hps, mmap_length, mmap_length]
  have HGL : Hid ((mmap (fun _ : Unit => Value.bool true) gs).length = gs.length) := by
    show (mmap (fun _ : Unit => Value.bool true) gs).length = gs.length
    rw [mmap_length]
  have HP := Lib.hid hP
  have HG : Hid (MapAt w gb (mmap (fun _ => Value.bool true) gs)) := hG
  have HN := Lib.hid hN
  have HS := Lib.hid hs
  have HB := Lib.hid hb
  have HPS := Lib.hid hps
  have HPP := Lib.hid hpl
  have HST := Lib.hid hsrt
  clear hP hG hN hs hb hps hpl hsrt hok
  obtain ⟨np, hnp⟩ : ∃ np, np = st.places.length := ⟨_, rfl⟩
  obtain ⟨ng, hng⟩ : ∃ ng, ng = gs.length := ⟨_, rfl⟩
  rw [← hnp] at hfew HPL ⊢
  rw [← hng] at hlg HGL ⊢
  have HNP := Lib.hid hnp
  have HNG := Lib.hid hng
  clear hnp hng
  have hl1 : ∀ k, (Builtin.len_ #[131] 3 #[.map (some mb)]).run Tryz.prog (w.drewN k) = .ok (.int .i64 (np : Int)) (w.drewN k) := by
    intro k
    have h1 : (w.drewN k).ownsMap Tryz.prog 9 rv mb _ (mapD (mmap (fun x : Value × Place => x.1) l)) := HP.out
    have := World.ownsMap.len (H := Value) h1 Tryz.underlying131 3
    rw [mapD_size, HPL.out] at this
    exact this
  have hl2 : ∀ k, (Builtin.len_ #[98] 3 #[.map (some gb)]).run Tryz.prog (w.drewN k) = .ok (.int .i64 (ng : Int)) (w.drewN k) := by
    intro k
    have h1 : (w.drewN k).ownsMap Tryz.prog 9 rv gb _ (mapD (mmap (fun _ : Unit => Value.bool true) gs)) := HG.out
    have := World.ownsMap.len (H := Value) h1 Tryz.underlying98 3
    rw [mapD_size, HGL.out] at this
    exact this
  go_enter Tryz.func102, Tryz.ntmps102
  go_wp2
  go_quiet (fail)
  go_wp2_with (at_range; refine wpList_mrange _ rfl _ _ rfl 89 Tryz.underlying97 nb Mn rfl ?hM ?_)
  case hM => exact HN.out
  intro w0 hr0 hg0 hs0
  have hB0 : Below w.heap.size w w0 := ((Below.refl _ w).drewN_ nq).grown hg0 (Nat.le_refl _) (fun _ h => by cases h)
  have hnw : w.heap.size < w0.heap.size := by omega
  have HR0 := Lib.hid hr0
  clear hr0 hg0 hs0 hl1 hl2
  have hnk : newKeys st.places Mn ≤ 1000000 := Nat.le_trans (List.length_filter_le _ _) hln
  go_wp2
  go_loopw [3] (fun v wr => ∃ rem, RangeAt wr nb w.heap.size Mn rem ∧ v = .int .i64 ((np : Int) - ng + ((newKeys st.places Mn : Int) - newKeys st.places rem)) ∧ KeyLoop w st.places Mn rem wr) (fun _ wr => wr.rangeLeft nb w.heap.size)
  case atStart => exact ⟨Mn, HR0.out, by congr 1; omega, hB0, Nat.le_refl _, HST.out, hnw⟩
  case round =>
    obtain ⟨rem, hr, rfl, hB, hle, hsr, hlt⟩ := hrel
    have HR := Lib.hid hr
    have HSR := Lib.hid hsr
    clear hr hsr
    obtain ⟨x, hx⟩ : ∃ x : Int, x = (np : Int) - ng + ((newKeys st.places Mn : Int) - newKeys st.places rem) := ⟨_, rfl⟩
    have hx0 : -1000000 ≤ x := by omega
    have hx1 : x ≤ 2000000 := by omega
    rw [← hx]
    have HX := Lib.hid hx
    clear hx
    go_wp2_with (at_next; refine wpList_mnext _ rfl _ rfl nb w.heap.size Mn rem rfl HR.out ?_ ?_)
    · intro hrem
      have HREM := Lib.hid hrem
      clear hrem
      go_wp2
      go_ret
      refine ⟨ret_int ?_, hB⟩
      have e1 := HX.out
      rw [HREM.out] at e1
      have e2 : newKeys st.places [] = 0 := rfl
      rw [e2] at e1
      have e3 := HNP.out
      have e4 := HNG.out
      omega
    · intro key v w1 hks hget hmem hr1 hlt1 hg1 hs1 hen
      have hB1 : Below w.heap.size w w1 := hB.grown hg1 (by omega) (fun _ h => by cases h; omega)
      have HR1 := Lib.hid hr1
      have HMEM := Lib.hid hmem
      have HLT := Lib.hid hlt1
      have HKS := Lib.hid hks
      have HB1 := Lib.hid hB1
      clear hr1 hmem hlt1 hks hget hg1 hB1
      have j2 : w1.cell? ⟨s, 2, none⟩ = some (.pointer (some ⟨a, 0, none⟩)) := (Blk.below HS.out HB1.out (Blk.lt HS.out)).cell 2
      have j1 : w1.cell? ⟨a, 1, none⟩ = some (.map (some mb)) := (Blk.below HB.out HB1.out (Blk.lt HB.out)).cell 1
      have HP1 : Hid (MapAt w1 mb (mmap (fun x : Value × Place => x.1) l)) := MapAt.below HP.out HB1.out
      obtain ⟨p1, hp1⟩ : ∃ p1, mget (mmap (fun x : Value × Place => x.1) l) key.data.toList = p1 := ⟨_, rfl⟩
      have HPG := Lib.hid hp1
      clear hp1
      have hks := HKS.out
      have hw1 : w.heap.size < w1.heap.size := by omega
      have hmps : (mget st.places key.data.toList).isNone = p1.isNone := by
        rw [HPS.out, mget_mmap]
        have e := HPG.out
        rw [mget_mmap] at e
        rw [← e]
        simp
      have HMP := Lib.hid hmps
      clear hmps
      cases p1 with
      | none =>
        go_wp2_with (at_lookup; refine wpList_get_ok_none _ rfl _ _ _ rfl 130 Tryz.underlying131 (Tryz.zeroValue130 _) mb _ rfl HP1.out key rfl HKS.out HPG.out ?_)
        exact key_round _ HB1.out HR1.out HLT.out hle HSR.out HMEM.out hw1 HX.out (by rw [HMP.out]; rfl)
      | some v1 =>
        have hpv : ∃ x y A n c, v1 = .agg #[.int .i64 x, .int .u32 y, .slice A n c] := by
          have e := HPG.out
          rw [mget_mmap] at e
          cases hq : mget l key.data.toList with
          | none => rw [hq] at e; cases e
          | some q =>
            rw [hq] at e
            have e : q.1 = v1 := by simpa using e
            obtain ⟨sv', hv', A, c, hA, _⟩ := HPP.out _ (mget_mem hq)
            subst hA
            exact ⟨_, _, _, _, _, by rw [← e]; exact hv'⟩
        obtain ⟨y1, y2, y3, y4, y5, rfl⟩ := hpv
        go_wp2_with (at_lookup; refine wpList_get_ok_some _ rfl _ _ _ rfl 130 Tryz.underlying131 (Tryz.zeroValue130 _) mb _ rfl HP1.out key rfl HKS.out _ HPG.out ?_)
        exact key_round _ HB1.out HR1.out HLT.out hle HSR.out HMEM.out hw1 HX.out (by rw [HMP.out]; simp)

end Go.Proofs.YtbgiklkpinflaaaGreat
