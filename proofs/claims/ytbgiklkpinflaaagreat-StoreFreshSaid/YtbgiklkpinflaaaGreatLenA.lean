/- Ranging over a map. keys: how many keys the transaction has. Blocks, length. -/
import Derived.Test.YtbgiklkpinflaaaGreatHas
import Derived.Maps.RangeWalk
import Derived.ChangeKeys

namespace Go.Proofs.YtbgiklkpinflaaaGreat
open Go.RowKit Go.Shelf Go.Maps

/-- Iterator r goes over the map m in block b; rem is still to come. -/
def RangeAt (w : World) (b r : Nat) (m rem : List (List UInt8 × Value)) : Prop :=
  ∃ left cnt, w.ranges Tryz.prog 9 rv b r m.length (mapD m) left cnt ∧ rem = m.filter fun p => left (.string p.1)

theorem RangeAt.keeps {F : Nat → Prop} {w w' : World} {b r : Nat} {m rem : List (List UInt8 × Value)} (h : RangeAt w b r m rem) (k : Keeps F w w') (hb : ¬ F b) (hr : ¬ F r) : RangeAt w' b r m rem ∧ w'.rangeLeft b r = w.rangeLeft b r := by
  obtain ⟨left, cnt, hh, hrem⟩ := h
  have hl := hh.left_eq
  obtain ⟨es, clock, since, seen, c0, h1, F1, h2, h3, h4, rest⟩ := hh
  have lt1 : b < w.heap.size := (Array.getElem?_eq_some_iff.1 h1).1
  have lt2 : r < w.heap.size := (Array.getElem?_eq_some_iff.1 h4).1
  have hh' : w'.ranges Tryz.prog 9 rv b r m.length (mapD m) left cnt := ⟨es, clock, since, seen, c0, (k.block b lt1 hb).trans h1, F1, h2, h3, (k.block r lt2 hr).trans h4, rest⟩
  exact ⟨⟨left, cnt, hh', hrem⟩, by rw [hh'.left_eq, hl]⟩
theorem RangeAt.map {w : World} {b r : Nat} {m rem : List (List UInt8 × Value)} (h : RangeAt w b r m rem) : MapAt w b m := by
  obtain ⟨left, cnt, ⟨es, clock, since, seen, c0, h1, F1, h2, h3, _⟩, _⟩ := h
  exact ⟨es, clock, h1, F1, h2, h3⟩

section
variable {α : Type}
theorem mdel_none {m : List (List UInt8 × α)} {k : List UInt8} (h : ∀ p ∈ m, p.1 ≠ k) : mdel m k = m := List.filter_eq_self.2 fun p hp => by simpa using h p hp
/-- An entry of a map stands in it once. -/
theorem srt_perm : ∀ {m : List (List UInt8 × α)}, Srt m → ∀ {k : List UInt8} {v : α}, (k, v) ∈ m → m.Perm ((k, v) :: mdel m k)
  | [], _, _, _, h => by simp at h
  | y :: r, hs, k, v, h => by
    unfold Srt at hs
    rw [List.pairwise_cons] at hs
    rcases List.mem_cons.1 h with rfl | h'
    · have hn : ∀ p ∈ r, p.1 ≠ k := fun p hp e => by
        have := hs.1 p hp
        rw [e] at this
        exact List.lt_irrefl _ this
      have e : mdel ((k, v) :: r) k = r := by
        show List.filter _ _ = _
        rw [List.filter_cons_of_neg (by simp)]
        exact mdel_none hn
      rw [e]
    · have hne : y.1 ≠ k := fun e => by
        have := hs.1 _ h'
        rw [e] at this
        exact List.lt_irrefl _ this
      have e : mdel (y :: r) k = y :: mdel r k := by
        show List.filter _ _ = _
        rw [List.filter_cons_of_pos (by simpa using hne)]
        rfl
      rw [e]
      exact ((srt_perm hs.2 h').cons y).trans (List.Perm.swap _ _ _)
theorem Srt.filter_ {m : List (List UInt8 × α)} (h : Srt m) (f : List UInt8 × α → Bool) : Srt (m.filter f) := List.Pairwise.filter _ h
end

theorem mget_isSome {α : Type} {m : List (List UInt8 × α)} {p : List UInt8 × α} (h : p ∈ m) : (mget m p.1).isSome = true := by
  unfold mget
  rw [Option.isSome_map, List.isSome_find?]
  exact List.any_eq_true.2 ⟨p, h, by simp⟩

theorem key_inv {key : Value} {kl : Lit} (h : keyOf Tryz.prog 9 key = some kl) : ∃ s : ByteArray, key = .string s ∧ s.size ≤ maxLen ∧ kl = .string s.data.toList := by
  rw [keyOf_string Tryz.underlying9] at h
  unfold mapKey at h
  rw [Tryz.underlying9] at h
  cases key with
  | string s =>
    simp only at h
    split at h
    · rename_i hs
      exact ⟨s, rfl, hs, by cases h; rfl⟩
    · cases h
  | _ => simp at h

section
variable {ops : Array Oper} {rest : List Oper} {o : Oper} {a : Act} {Q : Exit → Act → World → Prop}
theorem wpList_mrange (w : World) (hg : o.guard = none) (m : Operand) (t : TypeId) (hop : o.op = Op.range t m) (e : TypeId) (ht : Tryz.prog.underlying t = some (.map 9 e)) (b : Nat) (M : List (List UInt8 × Value)) (hm : a.eval m = .map (some b)) (hM : MapAt w b M)
    (hK : ∀ w', RangeAt w' b w.heap.size M M → w.grownBy w' none → w'.heap.size = w.heap.size + 1 → wpList Tryz.prog ops Q rest (a.put o.dst (.pointer (some ⟨w.heap.size, 0, none⟩))) w') : wpList Tryz.prog ops Q (o :: rest) a w := by
  refine wpList_range_own (H := Value) w hg m t hop 9 e Tryz.lawStr ht rv b M.length (mapD M) hm hM fun w' h1 h2 h3 => hK w' ⟨_, _, h1, ?_⟩ h2 h3
  rw [List.filter_eq_self.2]
  intro p hp
  rw [mapD_has]
  exact mget_isSome hp

set_option maxRecDepth 100000 in
theorem wpList_mnext (w : World) (hg : o.guard = none) (it : Operand) (hop : o.op = Op.next it false) (b r : Nat) (M rem : List (List UInt8 × Value)) (hit : a.eval it = .pointer (some ⟨r, 0, none⟩)) (h : RangeAt w b r M rem)
    (hDone : rem = [] → wpList Tryz.prog ops Q rest (a.put o.dst (.tuple #[.bool false])) w)
    (hMore : ∀ (key : ByteArray) (v : Value) (w' : World), key.size ≤ maxLen → mget M key.data.toList = some v → (key.data.toList, v) ∈ rem → RangeAt w' b r M (mdel rem key.data.toList) → w'.rangeLeft b r < w.rangeLeft b r →
      w.grownBy w' (some r) → w'.heap.size = w.heap.size → (Instr.entry (.pointer (some ⟨r, 0, none⟩))).run Tryz.prog w' = .ok (.tuple #[.string key, v]) w' → wpList Tryz.prog ops Q rest (a.put o.dst (.tuple #[.bool true, .string key, v])) w') :
    wpList Tryz.prog ops Q (o :: rest) a w := by
  obtain ⟨left, cnt, hr, rfl⟩ := h
  refine wpList_next_ranges (H := Value) w hg it hop 9 Tryz.lawStr rv Value.string id ?_ ?_ b r M.length (mapD M) left cnt hit hr ?_ ?_
  · intro key kl hk
    obtain ⟨s, hs, _⟩ := key_inv hk
    exact ⟨s, hs⟩
  · intro v y _
    exact ⟨v, rfl⟩
  · intro _ hl
    exact hDone (List.filter_eq_nil_iff.2 fun p _ => by rw [hl]; simp)
  · intro x c kl y w' cnt' hkey hlk hv hat hrg hlt hgr hsz hen
    obtain ⟨s, hs, hsz2, rfl⟩ := key_inv hkey
    injection hs with hs
    subst hs
    have hy : y.1 = .held c := by
      have : some ((.held c, []) : DataW Value × List MemPlace) = some y := hv
      injection this with this
      rw [← this]
    have hget : mget M x.data.toList = some c := by
      have h1 := hat (.held (.bool true))
      have h2 := hat (.held (.bool false))
      rw [mapD_at, hy] at h1 h2
      injection h1 with h1
      injection h2 with h2
      cases hm : mget M x.data.toList with
      | some v =>
        rw [hm] at h1
        have h3 : v = c := h1
        rw [h3]
      | none =>
        rw [hm] at h1 h2
        have h3 : Value.bool true = c := h1
        have h4 : Value.bool false = c := h2
        rw [← h4] at h3
        cases h3
    refine hMore x c w' hsz2 hget (List.mem_filter.2 ⟨mget_mem hget, hlk⟩) ⟨_, _, hrg, ?_⟩ ?_ hgr hsz hen
    · rw [mdel, List.filter_filter]
      congr 1
      funext p
      rw [Bool.and_comm]
      rfl
    · rw [hrg.left_eq, hr.left_eq]
      exact hlt
end

end Go.Proofs.YtbgiklkpinflaaaGreat

namespace Go.Proofs.YtbgiklkpinflaaaGreat
open Go.RowKit Go.Shelf Go.Maps

theorem step_mlen {ops : Array Oper} {o : Oper} {a : Act} {w : World} {K : Act → World → Prop} {Q : Exit → Act → World → Prop} {E : Prop} (hg : o.guard = none) (m : Operand) (t : TypeId) (hop : o.op = Op.call { callee := Callee.builtin Builtin.len, args := #[m], argTypes := #[t] }) (e : TypeId) (ht : Tryz.prog.underlying t = some (.map 9 e))
    (b : Nat) (M : List (List UInt8 × Value)) (hm : a.eval m = .map (some b)) (hM : MapAt w b M) (hK : K (a.put o.dst (.int .i64 (M.length : Int))) w) : if Region.wanted o (yielded ops a.tmps) = true then Oper.wp Tryz.prog o a w K Q else E := by
  have hw : Region.wanted o (yielded ops a.tmps) = true := by simp [Region.wanted, hg]
  rw [if_pos hw]
  have hl := World.ownsMap.len (H := Value) hM ht o.type
  rw [mapD_size] at hl
  unfold Oper.wp
  simp [execOp, hop, resolve, invoke, builtin, hm, hl, Result.andThen]
  exact hK

/-- How many of the notes' keys are new. -/
def newKeys (ps : List (List UInt8 × Place)) (l : List (List UInt8 × Value)) : Nat := (l.filter fun p => (mget ps p.1).isNone).length

/-- The loop over the notes. -/
def KeyLoop (w : World) (ps : List (List UInt8 × Place)) (Mn rem : List (List UInt8 × Value)) (wr : World) : Prop :=
  Below w.heap.size w wr ∧ newKeys ps rem ≤ newKeys ps Mn ∧ Srt rem ∧ w.heap.size < wr.heap.size

theorem newKeys_del {ps : List (List UInt8 × Place)} {rem : List (List UInt8 × Value)} (hs : Srt rem) {k : List UInt8} {v : Value} (h : (k, v) ∈ rem) : newKeys ps rem = newKeys ps (mdel rem k) + (if (mget ps k).isNone then 1 else 0) := by
  unfold newKeys
  have := ((srt_perm hs h).filter (fun p => (mget ps p.1).isNone)).length_eq
  rw [this, List.filter_cons]
  split
  · rfl
  · rfl
theorem key_round {w w1 wr : World} {nb : Nat} {ps : List (List UInt8 × Place)} {Mn rem : List (List UInt8 × Value)} {k : List UInt8} {v : Value} {x x' A : Int} (o : Obj) (hB1 : Below w.heap.size w w1) (hr1 : RangeAt w1 nb w.heap.size Mn (mdel rem k)) (hlt : w1.rangeLeft nb w.heap.size < wr.rangeLeft nb w.heap.size)
    (hle : newKeys ps rem ≤ newKeys ps Mn) (hs : Srt rem) (hmem : (k, v) ∈ rem) (hsz : w.heap.size < w1.heap.size) (hx : x = A + ((newKeys ps Mn : Int) - newKeys ps rem)) (e : x' = x + (if (mget ps k).isNone then 1 else 0)) :
    (∃ rem', RangeAt (w1.alloc o) nb w.heap.size Mn rem' ∧ Value.int .i64 x' = .int .i64 (A + ((newKeys ps Mn : Int) - newKeys ps rem')) ∧ KeyLoop w ps Mn rem' (w1.alloc o)) ∧ (w1.alloc o).rangeLeft nb w.heap.size < wr.rangeLeft nb w.heap.size := by
  obtain ⟨h1, h2⟩ := hr1.keeps (F := fun _ => False) ((Keeps.refl _ w1).alloc o) id id
  have hd := newKeys_del (ps := ps) hs hmem
  refine ⟨⟨mdel rem k, h1, ?_, hB1.alloc (by omega) o, by omega, hs.filter_ _, by simp; omega⟩, by rw [h2]; exact hlt⟩
  congr 1
  rw [e, hx, hd]
  split <;> omega

set_option maxRecDepth 100000 in
set_option maxHeartbeats 4000000 in
theorem keys_calls {w : World} {s d life a mb nb gb n : Nat} {pv : Value} {st : St} {Mn : List (List UInt8 × Value)} {gs : List (List UInt8 × Unit)} (hs : StoBlk w s d life a pv true (.map (some nb)) (.map (some gb))) (hst : StateAt w a mb st) (hok : StOk n st) (hN : MapAt w nb Mn) (hG : GoneAt w gb gs) (hsrt : Srt Mn) (hln : Mn.length ≤ 1000000) (hlg : gs.length ≤ 1000000) :
    Calls Tryz.prog 102 #[.pointer (some ⟨s, 0, none⟩)] w fun e w' => e = .returned (.int .i64 ((st.places.length : Int) - gs.length + newKeys st.places Mn)) ∧ Below w.heap.size w w' := by
  obtain ⟨sv, hb, _, l, hP, hps, hpl⟩ := hst
  have c2 : w.cell? ⟨s, 2, none⟩ = some (.pointer (some ⟨a, 0, none⟩)) := hs.cell 2
  have c5 : w.cell? ⟨s, 5, none⟩ = some (.map (some nb)) := hs.cell 5
  have c6 : w.cell? ⟨s, 6, none⟩ = some (.map (some gb)) := hs.cell 6
  have d1 : w.cell? ⟨a, 1, none⟩ = some (.map (some mb)) := hb.cell 1
  have hfew := hok.few
  have HPL : Hid ((mmap (fun x : Value × Place => x.1) l).length = st.places.length) := by
    show (mmap (fun x : Value × Place => x.1) l).length = st.places.length
    rw [hps, mmap_length, mmap_length]
  have HGL : Hid ((mmap (fun _ : Unit => Value.bool true) gs).length = gs.length) := by
    show (mmap (fun _ : Unit => Value.bool true) gs).length = gs.length
    rw [mmap_length]
  have HP := Lib.hid hP
  have HG : Hid (MapAt w gb (mmap (fun _ => Value.bool true) gs)) := hG
  have HN := Lib.hid hN
  have HS := Lib.hid hs
  have HB := Lib.hid hb
  have HPS := Lib.hid hps
  have HPP := Lib.hid hpl
  have HST := Lib.hid hsrt
  clear hP hG hN hs hb hps hpl hsrt hok
  obtain ⟨np, hnp⟩ : ∃ np, np = st.places.length := ⟨_, rfl⟩
  obtain ⟨ng, hng⟩ : ∃ ng, ng = gs.length := ⟨_, rfl⟩
  rw [← hnp] at hfew HPL ⊢
  rw [← hng] at hlg HGL ⊢
  have HNP := Lib.hid hnp
  have HNG := Lib.hid hng
  clear hnp hng
  have hl1 : ∀ k, (Builtin.len_ #[131] 3 #[.map (some mb)]).run Tryz.prog (w.drewN k) = .ok (.int .i64 (np : Int)) (w.drewN k) := by
    intro k
    have h1 : (w.drewN k).ownsMap Tryz.prog 9 rv mb _ (mapD (mmap (fun x : Value × Place => x.1) l)) := HP.out
    have := World.ownsMap.len (H := Value) h1 Tryz.underlying131 3
    rw [mapD_size, HPL.out] at this
    exact this
  have hl2 : ∀ k, (Builtin.len_ #[98] 3 #[.map (some gb)]).run Tryz.prog (w.drewN k) = .ok (.int .i64 (ng : Int)) (w.drewN k) := by
    intro k
    have h1 : (w.drewN k).ownsMap Tryz.prog 9 rv gb _ (mapD (mmap (fun _ : Unit => Value.bool true) gs)) := HG.out
    have := World.ownsMap.len (H := Value) h1 Tryz.underlying98 3
    rw [mapD_size, HGL.out] at this
    exact this
  go_enter Tryz.func102, Tryz.ntmps102
  go_wp2
  go_quiet (fail)
  go_wp2_with (at_range; refine wpList_mrange _ rfl _ _ rfl 89 Tryz.underlying97 nb Mn rfl ?hM ?_)
  case hM => exact HN.out
  intro w0 hr0 hg0 hs0
  have hB0 : Below w.heap.size w w0 := ((Below.refl _ w).drewN_ nq).grown hg0 (Nat.le_refl _) (fun _ h => by cases h)
  have hnw : w.heap.size < w0.heap.size := by omega
  have HR0 := Lib.hid hr0
  clear hr0 hg0 hs0 hl1 hl2
  have hnk : newKeys st.places Mn ≤ 1000000 := Nat.le_trans (List.length_filter_le _ _) hln
  go_wp2
  go_loopw [3] (fun v wr => ∃ rem, RangeAt wr nb w.heap.size Mn rem ∧ v = .int .i64 ((np : Int) - ng + ((newKeys st.places Mn : Int) - newKeys st.places rem)) ∧ KeyLoop w st.places Mn rem wr) (fun _ wr => wr.rangeLeft nb w.heap.size)
  case atStart => exact ⟨Mn, HR0.out, by congr 1; omega, hB0, Nat.le_refl _, HST.out, hnw⟩
  case round =>
    obtain ⟨rem, hr, rfl, hB, hle, hsr, hlt⟩ := hrel
    have HR := Lib.hid hr
    have HSR := Lib.hid hsr
    clear hr hsr
    obtain ⟨x, hx⟩ : ∃ x : Int, x = (np : Int) - ng + ((newKeys st.places Mn : Int) - newKeys st.places rem) := ⟨_, rfl⟩
    have hx0 : -1000000 ≤ x := by omega
    have hx1 : x ≤ 2000000 := by omega
    rw [← hx]
    have HX := Lib.hid hx
    clear hx
    go_wp2_with (at_next; refine wpList_mnext _ rfl _ rfl nb w.heap.size Mn rem rfl HR.out ?_ ?_)
    · intro hrem
      have HREM := Lib.hid hrem
      clear hrem
      go_wp2
      go_ret
      refine ⟨ret_int ?_, hB⟩
      have e1 := HX.out
      rw [HREM.out] at e1
      have e2 : newKeys st.places [] = 0 := rfl
      rw [e2] at e1
      have e3 := HNP.out
      have e4 := HNG.out
      omega
    · intro key v w1 hks hget hmem hr1 hlt1 hg1 hs1 hen
      have hB1 : Below w.heap.size w w1 := hB.grown hg1 (by omega) (fun _ h => by cases h; omega)
      have HR1 := Lib.hid hr1
      have HMEM := Lib.hid hmem
      have HLT := Lib.hid hlt1
      have HKS := Lib.hid hks
      have HB1 := Lib.hid hB1
      clear hr1 hmem hlt1 hks hget hg1 hB1
      have j2 : w1.cell? ⟨s, 2, none⟩ = some (.pointer (some ⟨a, 0, none⟩)) := (Blk.below HS.out HB1.out (Blk.lt HS.out)).cell 2
      have j1 : w1.cell? ⟨a, 1, none⟩ = some (.map (some mb)) := (Blk.below HB.out HB1.out (Blk.lt HB.out)).cell 1
      have HP1 : Hid (MapAt w1 mb (mmap (fun x : Value × Place => x.1) l)) := MapAt.below HP.out HB1.out
      obtain ⟨p1, hp1⟩ : ∃ p1, mget (mmap (fun x : Value × Place => x.1) l) key.data.toList = p1 := ⟨_, rfl⟩
      have HPG := Lib.hid hp1
      clear hp1
      have hks := HKS.out
      have hw1 : w.heap.size < w1.heap.size := by omega
      have hmps : (mget st.places key.data.toList).isNone = p1.isNone := by
        rw [HPS.out, mget_mmap]
        have e := HPG.out
        rw [mget_mmap] at e
        rw [← e]
        simp
      have HMP := Lib.hid hmps
      clear hmps
      cases p1 with
      | none =>
        go_wp2_with (at_lookup; refine wpList_get_ok_none _ rfl _ _ _ rfl 130 Tryz.underlying131 (Tryz.zeroValue130 _) mb _ rfl HP1.out key rfl HKS.out HPG.out ?_)
        exact key_round _ HB1.out HR1.out HLT.out hle HSR.out HMEM.out hw1 HX.out (by rw [HMP.out]; rfl)
      | some v1 =>
        have hpv : ∃ x y A n c, v1 = .agg #[.int .i64 x, .int .u32 y, .slice A n c] := by
          have e := HPG.out
          rw [mget_mmap] at e
          cases hq : mget l key.data.toList with
          | none => rw [hq] at e; cases e
          | some q =>
            rw [hq] at e
            have e : q.1 = v1 := by simpa using e
            obtain ⟨sv', hv', A, c, hA, _⟩ := HPP.out _ (mget_mem hq)
            subst hA
            exact ⟨_, _, _, _, _, by rw [← e]; exact hv'⟩
        obtain ⟨y1, y2, y3, y4, y5, rfl⟩ := hpv
        go_wp2_with (at_lookup; refine wpList_get_ok_some _ rfl _ _ _ rfl 130 Tryz.underlying131 (Tryz.zeroValue130 _) mb _ rfl HP1.out key rfl HKS.out _ HPG.out ?_)
        exact key_round _ HB1.out HR1.out HLT.out hle HSR.out HMEM.out hw1 HX.out (by rw [HMP.out]; simp)

end Go.Proofs.YtbgiklkpinflaaaGreat

namespace Go.Proofs.YtbgiklkpinflaaaGreat
open Go.RowKit Go.Shelf Go.Maps

set_option maxHeartbeats 1000000 in
theorem blocks_any (b n c : Nat) (A : Option Addr) (w : World) (h0 : w.cell? ⟨b, 0, none⟩ = some (.slice A n c)) (hn : 0 < n) (hm : n ≤ 1024) :
    Calls Tryz.prog 98 #[.pointer (some ⟨b, 0, none⟩)] w fun e w' => e = .returned (.int .i64 (n : Int)) ∧ w = w' := by
  go_enter Tryz.func98, Tryz.ntmps98
  go_wp2_with (go_at_call 79; refine (none_not b n c A _ h0 hn hm).mono ?_; rintro e w' ⟨rfl, rfl⟩)
  go_ret
  exact ⟨rfl, rfl⟩
theorem blocks_at {P : Nat → Prop} {w : World} {b : Nat} {D : Dsk} {S : List Nat} (h : DiskAt P w b D S) : Calls Tryz.prog 98 #[.pointer (some ⟨b, 0, none⟩)] w fun e w' => e = .returned (.int .i64 (D.blocks.length : Int)) ∧ w = w' := by
  obtain ⟨ho, g1, cur1, pv, ps, rfl, hr⟩ := h
  exact blocks_any b _ _ _ w hr.c0 ho.some_ ho.few

/-- How long the list of a place is. -/
def keyLen (ps : List (List UInt8 × Place)) (k : List UInt8) : Nat := 8 + k.length + 2 * ((mget ps k).map fun p => p.blocks.length).getD 0
def sumLen (ps : List (List UInt8 × Place)) (rem : List (List UInt8 × Value)) : Nat := (rem.map fun p => keyLen ps p.1).sum
theorem sumLen_del {ps : List (List UInt8 × Place)} {rem : List (List UInt8 × Value)} (hs : Srt rem) {k : List UInt8} {v : Value} (h : (k, v) ∈ rem) : sumLen ps rem = keyLen ps k + sumLen ps (mdel rem k) := by
  unfold sumLen
  rw [((srt_perm hs h).map (fun p => keyLen ps p.1)).sum_nat]
  simp

theorem sumLen_all {l : List (List UInt8 × (Value × Place))} (hs : Srt (mmap (·.2) l)) : sumLen (mmap (·.2) l) (mmap (·.1) l) = (writtenOf (mmap (·.2) l)).length := by
  have key : ∀ (m : List (List UInt8 × (Value × Place))), (∀ x ∈ m, mget (mmap (·.2) l) x.1 = some x.2.2) → sumLen (mmap (·.2) l) (mmap (·.1) m) = (writtenOf (mmap (·.2) m)).length := by
    intro m
    induction m with
    | nil => intro _; rfl
    | cons x r ih =>
      intro h
      have e1 : writtenOf (mmap (·.2) (x :: r)) = placeBytes (x.1, x.2.2) ++ writtenOf (mmap (·.2) r) := rfl
      have e2 : sumLen (mmap (·.2) l) (mmap (·.1) (x :: r)) = keyLen (mmap (·.2) l) x.1 + sumLen (mmap (·.2) l) (mmap (·.1) r) := by simp [sumLen, mmap]
      rw [e1, e2, ih (fun y hy => h y (by simp [hy])), List.length_append, placeBytes_length, keyLen, h x (by simp)]
      rfl
  refine key l fun x hx => ?_
  obtain ⟨i, hi⟩ := List.getElem?_of_mem hx
  exact mget_at hs (k := i) (x := (x.1, x.2.2)) (by simp [mmap, hi])

def LenLoop (w : World) (ps : List (List UInt8 × Place)) (M rem : List (List UInt8 × Value)) (wr : World) : Prop :=
  Below w.heap.size w wr ∧ sumLen ps rem ≤ sumLen ps M ∧ Srt rem ∧ w.heap.size < wr.heap.size

theorem len_round {w w1 wr : World} {mb : Nat} {ps : List (List UInt8 × Place)} {M rem : List (List UInt8 × Value)} {k : List UInt8} {v : Value} {x x' : Int} (o : Obj) (hB1 : Below w.heap.size w w1) (hr1 : RangeAt w1 mb w.heap.size M (mdel rem k)) (hlt : w1.rangeLeft mb w.heap.size < wr.rangeLeft mb w.heap.size)
    (hle : sumLen ps rem ≤ sumLen ps M) (hs : Srt rem) (hmem : (k, v) ∈ rem) (hsz : w.heap.size < w1.heap.size) (hx : x = (sumLen ps M : Int) - sumLen ps rem) (e : x' = x + keyLen ps k) :
    (∃ rem', RangeAt (w1.alloc o) mb w.heap.size M rem' ∧ Value.int .i64 x' = .int .i64 ((sumLen ps M : Int) - sumLen ps rem') ∧ LenLoop w ps M rem' (w1.alloc o)) ∧ (w1.alloc o).rangeLeft mb w.heap.size < wr.rangeLeft mb w.heap.size := by
  obtain ⟨h1, h2⟩ := hr1.keeps (F := fun _ => False) ((Keeps.refl _ w1).alloc o) id id
  have hd := sumLen_del (ps := ps) hs hmem
  refine ⟨⟨mdel rem k, h1, ?_, hB1.alloc (by omega) o, by omega, hs.filter_ _, by simp; omega⟩, by rw [h2]; exact hlt⟩
  congr 1
  rw [e, hx, hd]
  omega

set_option maxRecDepth 100000 in
set_option maxHeartbeats 4000000 in
theorem length_calls {mb : Nat} {ps : List (List UInt8 × Place)} (w : World) (h : PlacesAt w mb ps) (hs : Srt ps) (hk : ∀ x ∈ ps, x.1.length ≤ 64) (hp : ∀ x ∈ ps, x.2.blocks.length ≤ 274) (hfew : ps.length ≤ 2000) :
    Calls Tryz.prog 113 #[.map (some mb)] w fun e w' => e = .returned (.int .i64 ((writtenOf ps).length : Int)) ∧ Below w.heap.size w w' := by
  obtain ⟨l, hM, rfl, hpl⟩ := h
  have hsrt : Srt (mmap (fun x : Value × Place => x.1) l) := by
    unfold Srt mmap at hs ⊢
    rw [List.pairwise_map] at hs ⊢
    exact hs
  have hall := sumLen_all hs
  obtain ⟨ps, hps⟩ : ∃ ps, ps = mmap (fun x : Value × Place => x.2) l := ⟨_, rfl⟩
  obtain ⟨M, hMe⟩ : ∃ M, M = mmap (fun x : Value × Place => x.1) l := ⟨_, rfl⟩
  rw [← hps] at hs hk hp hfew
  rw [← hps]
  rw [← hps, ← hMe] at hall
  rw [← hMe] at hM hsrt
  have htot : sumLen ps M ≤ 2000000 := by
    rw [hall]
    have : ∀ qs : List (List UInt8 × Place), (∀ x ∈ qs, x.1.length ≤ 64) → (∀ x ∈ qs, x.2.blocks.length ≤ 274) → (writtenOf qs).length ≤ 700 * qs.length := by
      intro qs
      induction qs with
      | nil => intro _ _; simp [writtenOf]
      | cons x r ih =>
        intro h1 h2
        have e : writtenOf (x :: r) = placeBytes x ++ writtenOf r := rfl
        rw [e, List.length_append, placeBytes_length, List.length_cons]
        have a := h1 x (by simp)
        have b := h2 x (by simp)
        have c := ih (fun y hy => h1 y (by simp [hy])) (fun y hy => h2 y (by simp [hy]))
        omega
    have := this ps hk hp
    omega
  have HM := Lib.hid hM
  have HS := Lib.hid hsrt
  have HAL := Lib.hid hall
  have HPS := Lib.hid hps
  have HMe := Lib.hid hMe
  have HPL := Lib.hid hpl
  have HK := Lib.hid hk
  have HPB := Lib.hid hp
  have HSS := Lib.hid hs
  clear hM hsrt hall hps hMe hpl hk hp hs
  go_enter Tryz.func113, Tryz.ntmps113
  go_wp2_with (at_range; refine wpList_mrange _ rfl _ _ rfl 130 Tryz.underlying131 mb M rfl ?hM ?_)
  case hM => exact HM.out
  intro w0 hr0 hg0 hs0
  have hB0 : Below w.heap.size w w0 := (Below.refl _ w).grown hg0 (Nat.le_refl _) (fun _ h => by cases h)
  have hnw : w.heap.size < w0.heap.size := by omega
  have HR0 := Lib.hid hr0
  clear hr0 hg0 hs0
  go_wp2
  go_loopw [3] (fun v wr => ∃ rem, RangeAt wr mb w.heap.size M rem ∧ v = .int .i64 ((sumLen ps M : Int) - sumLen ps rem) ∧ LenLoop w ps M rem wr) (fun _ wr => wr.rangeLeft mb w.heap.size)
  case atStart => exact ⟨M, HR0.out, by congr 1; omega, hB0, Nat.le_refl _, HS.out, hnw⟩
  case round =>
    obtain ⟨rem, hr, rfl, hB, hle, hsr, hlt⟩ := hrel
    have HR := Lib.hid hr
    have HSR := Lib.hid hsr
    clear hr hsr
    obtain ⟨x, hx⟩ : ∃ x : Int, x = (sumLen ps M : Int) - sumLen ps rem := ⟨_, rfl⟩
    have hx0 : 0 ≤ x := by omega
    have hx1 : x ≤ 2000000 := by omega
    rw [← hx]
    have HX := Lib.hid hx
    clear hx
    go_wp2_with (at_next; refine wpList_mnext _ rfl _ rfl mb w.heap.size M rem rfl HR.out ?_ ?_)
    · intro hrem
      have HREM := Lib.hid hrem
      clear hrem
      go_wp2
      go_ret
      refine ⟨ret_int ?_, hB⟩
      have e1 := HX.out
      rw [HREM.out] at e1
      have e2 : sumLen ps [] = 0 := rfl
      rw [e2] at e1
      have e3 := HAL.out
      omega
    · intro key v w1 hks hget hmem hr1 hlt1 hg1 hs1 hen
      have hB1 : Below w.heap.size w w1 := hB.grown hg1 (by omega) (fun _ h => by cases h; omega)
      have hw1 : w.heap.size < w1.heap.size := by omega
      have hpv : ∃ y1 y2 A n c, v = .agg #[.int .i64 y1, .int .u32 y2, .slice A n c] ∧ n ≤ 274 ∧ key.size ≤ 64 ∧ keyLen ps key.data.toList = 8 + key.size + 2 * n := by
        rw [HMe.out, mget_mmap] at hget
        cases hq : mget l key.data.toList with
        | none => rw [hq] at hget; cases hget
        | some q =>
          rw [hq] at hget
          have e : q.1 = v := by simpa using hget
          have hm := mget_mem hq
          have hm2 : (key.data.toList, q.2) ∈ ps := by rw [HPS.out]; exact List.mem_map.2 ⟨_, hm, rfl⟩
          obtain ⟨sv', hv', A, c, hA, _⟩ := HPL.out _ hm
          subst hA
          have h1 := HK.out _ hm2
          have h2 := HPB.out _ hm2
          have hsz : key.data.toList.length = key.size := by rw [Array.length_toList]; rfl
          refine ⟨_, _, _, _, _, by rw [← e]; exact hv', h2, by rw [← hsz]; exact h1, ?_⟩
          have hg : mget ps key.data.toList = some q.2 := by rw [HPS.out, mget_mmap, hq]; rfl
          unfold keyLen
          rw [hg, hsz]
          rfl
      obtain ⟨y1, y2, A, nb, c, rfl, hnb, hk64, hkl⟩ := hpv
      have HKL := Lib.hid hkl
      have HR1 := Lib.hid hr1
      have HMEM := Lib.hid hmem
      have HLT := Lib.hid hlt1
      have HKS := Lib.hid hks
      have HB1 := Lib.hid hB1
      clear hr1 hmem hlt1 hks hget hg1 hB1 hs1 hkl
      go_wp2
      exact len_round _ HB1.out HR1.out HLT.out hle HSR.out HMEM.out hw1 HX.out (by rw [HKL.out]; omega)

end Go.Proofs.YtbgiklkpinflaaaGreat
