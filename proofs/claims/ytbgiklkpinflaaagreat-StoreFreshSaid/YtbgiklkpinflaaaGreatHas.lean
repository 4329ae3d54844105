/- has. -/
import Derived.Test.YtbgiklkpinflaaaGreatDead
namespace Go.Proofs.YtbgiklkpinflaaaGreat
open Go.RowKit Go.Shelf Go.Maps

theorem wpList_get_none {ops : Array Oper} {rest : List Oper} {o : Oper} {a : Act} {Q : Exit → Act → World → Prop} (w : World) (hg : o.guard = none) (m x : Operand) (t : TypeId) (hop : o.op = Op.lookup t m x false) (e : TypeId) (ht : Tryz.prog.underlying t = some (.map 9 e)) {z : Value} (hz : (zeroValue e).run Tryz.prog w = .ok z w)
    (b : Nat) (M : List (List UInt8 × Value)) (hm : a.eval m = .map (some b)) (hM : MapAt w b M) (s : ByteArray) (hx : a.eval x = .string s) (hs : s.size ≤ maxLen) (hv : mget M s.data.toList = none)
    (hK : wpList Tryz.prog ops Q rest (a.put o.dst z) w) : wpList Tryz.prog ops Q (o :: rest) a w := by
  refine wpList_get w hg m x t hop e ht hz b M hm hM s hx hs ?_
  rw [hv]
  exact hK

set_option maxRecDepth 100000 in
set_option maxHeartbeats 16000000 in
theorem has_calls {w : World} {s d life a mb nb gb : Nat} {pv : Value} {st : St} {Mn : List (List UInt8 × Value)} {gs : List (List UInt8 × Unit)} (hs : StoBlk w s d life a pv true (.map (some nb)) (.map (some gb))) (hst : StateAt w a mb st) (hN : MapAt w nb Mn) (hG : GoneAt w gb gs) (hkn : ∀ x ∈ Mn, ∃ A n c, x.2 = .slice A n c) (key : ByteArray) (hk : key.size ≤ maxLen) :
    Calls Tryz.prog 101 #[.pointer (some ⟨s, 0, none⟩), .string key] w fun e w' => e = .returned (.bool ((mget Mn key.data.toList).isSome || ((mget st.places key.data.toList).isSome && !(mget gs key.data.toList).isSome))) ∧ Below w.heap.size w w' := by
  obtain ⟨sv, hb, _, l, hP, hps, hpl⟩ := hst
  have c2 : w.cell? ⟨s, 2, none⟩ = some (.pointer (some ⟨a, 0, none⟩)) := hs.cell 2
  have c5 : w.cell? ⟨s, 5, none⟩ = some (.map (some nb)) := hs.cell 5
  have c6 : w.cell? ⟨s, 6, none⟩ = some (.map (some gb)) := hs.cell 6
  have c6a : ∀ o, (w.alloc o).cell? ⟨s, 6, none⟩ = some (.map (some gb)) := fun o => (Blk.alloc hs o).cell 6
  have d1 : w.cell? ⟨a, 1, none⟩ = some (.map (some mb)) := hb.cell 1
  have hgp : (mget st.places key.data.toList).isSome = (mget (mmap (fun x : Value × Place => x.1) l) key.data.toList).isSome := by rw [hps, mget_mmap, mget_mmap, Option.isSome_map, Option.isSome_map]
  rw [hgp]
  have HG : Hid (∀ o, MapAt (w.alloc o) gb (mmap (fun _ => Value.bool true) gs)) := fun o => MapAt.below hG ((Below.refl _ w).alloc (Nat.le_refl _) o)
  have HP := Lib.hid hP
  have HN := Lib.hid hN
  have HK := Lib.hid hk
  clear hs hb hps hgp hP hN hG hk
  obtain ⟨n1, hn1⟩ : ∃ n1, mget Mn key.data.toList = n1 := ⟨_, rfl⟩
  obtain ⟨p1, hp1⟩ : ∃ p1, mget (mmap (fun x : Value × Place => x.1) l) key.data.toList = p1 := ⟨_, rfl⟩
  obtain ⟨g1, hg1⟩ : ∃ g1, mget gs key.data.toList = g1 := ⟨_, rfl⟩
  rw [hn1, hp1, hg1]
  have HG1 : Hid (mget (mmap (fun _ => Value.bool true) gs) key.data.toList = g1.map fun _ => Value.bool true) := by
    show mget (mmap (fun _ => Value.bool true) gs) key.data.toList = _
    rw [mget_mmap, hg1]
  have hlk : ∀ o, (Instr.lookup 98 (.map (some gb)) (.string key) false).run Tryz.prog (w.alloc o) = .ok (.bool g1.isSome) (w.alloc o) := by
    intro o
    obtain ⟨v, ps, hrun, hv⟩ := World.ownsMap.lookup (HG.out o) Tryz.lawStr Tryz.underlying98 (Tryz.zeroValue4 _) (zd := .held (.bool false)) (zp := []) rfl (key_of key HK.out)
    rw [mapD_at, HG1.out] at hv
    have e : v = .bool g1.isSome := by
      have := congrArg (fun r : Option (DataW Value × List MemPlace) => r.map (·.1)) hv
      have e2 : v = (g1.map fun _ => Value.bool true).getD (.bool false) := by simpa [rv] using this
      rw [e2]
      cases g1 <;> rfl
    rw [hrun, e]
  have hnv : ∀ v, n1 = some v → ∃ A n c, v = .slice A n c := fun v hv => by
    rw [hv] at hn1
    exact hkn _ (mget_mem hn1)
  have hpv : ∀ v, p1 = some v → ∃ x y z, v = .agg #[.int .i64 x, .int .u32 y, z] ∧ ∃ A n c, z = .slice A n c := fun v hv => by
    rw [hv, mget_mmap] at hp1
    cases hq : mget l key.data.toList with
    | none => rw [hq] at hp1; cases hp1
    | some q =>
      rw [hq] at hp1
      have e : q.1 = v := by simpa using hp1
      obtain ⟨sv', hv', A, c, hA, _⟩ := hpl _ (mget_mem hq)
      exact ⟨_, _, _, by rw [← e]; exact hv', _, _, _, hA⟩
  have HN1 := Lib.hid hn1
  have HP1 := Lib.hid hp1
  clear hn1 hp1 hg1 hkn hpl
  cases n1 with
  | some vn =>
    obtain ⟨An, nn, cn, rfl⟩ := hnv _ rfl
    cases p1 with
    | some vp =>
      obtain ⟨x, y, z, rfl, Az, nz, cz, rfl⟩ := hpv _ rfl
      cases g1 with
      | some _ =>
        go_enter Tryz.func101, Tryz.ntmps101
        go_wp2_with (first
          | (at_lookup; refine wpList_get_ok_some _ rfl _ _ _ rfl 89 Tryz.underlying97 (Tryz.zeroValue89 _) nb Mn rfl HN.out key rfl HK.out _ HN1.out ?_)
          | (at_lookup; refine wpList_get_ok_some _ rfl _ _ _ rfl 130 Tryz.underlying131 (Tryz.zeroValue130 _) mb _ rfl HP.out key rfl HK.out _ HP1.out ?_))
        go_ret
        exact ⟨rfl, (Below.refl _ w).alloc (Nat.le_refl _) _⟩
      | none =>
        go_enter Tryz.func101, Tryz.ntmps101
        go_wp2_with (first
          | (at_lookup; refine wpList_get_ok_some _ rfl _ _ _ rfl 89 Tryz.underlying97 (Tryz.zeroValue89 _) nb Mn rfl HN.out key rfl HK.out _ HN1.out ?_)
          | (at_lookup; refine wpList_get_ok_some _ rfl _ _ _ rfl 130 Tryz.underlying131 (Tryz.zeroValue130 _) mb _ rfl HP.out key rfl HK.out _ HP1.out ?_))
        go_ret
        exact ⟨rfl, (Below.refl _ w).alloc (Nat.le_refl _) _⟩
    | none =>
      cases g1 with
      | some _ =>
        go_enter Tryz.func101, Tryz.ntmps101
        go_wp2_with (first
          | (at_lookup; refine wpList_get_ok_some _ rfl _ _ _ rfl 89 Tryz.underlying97 (Tryz.zeroValue89 _) nb Mn rfl HN.out key rfl HK.out _ HN1.out ?_)
          | (at_lookup; refine wpList_get_ok_none _ rfl _ _ _ rfl 130 Tryz.underlying131 (Tryz.zeroValue130 _) mb _ rfl HP.out key rfl HK.out HP1.out ?_))
        go_ret
        exact ⟨rfl, (Below.refl _ w).alloc (Nat.le_refl _) _⟩
      | none =>
        go_enter Tryz.func101, Tryz.ntmps101
        go_wp2_with (first
          | (at_lookup; refine wpList_get_ok_some _ rfl _ _ _ rfl 89 Tryz.underlying97 (Tryz.zeroValue89 _) nb Mn rfl HN.out key rfl HK.out _ HN1.out ?_)
          | (at_lookup; refine wpList_get_ok_none _ rfl _ _ _ rfl 130 Tryz.underlying131 (Tryz.zeroValue130 _) mb _ rfl HP.out key rfl HK.out HP1.out ?_))
        go_ret
        exact ⟨rfl, (Below.refl _ w).alloc (Nat.le_refl _) _⟩
  | none =>
    cases p1 with
    | some vp =>
      obtain ⟨x, y, z, rfl, Az, nz, cz, rfl⟩ := hpv _ rfl
      cases g1 with
      | some _ =>
        go_enter Tryz.func101, Tryz.ntmps101
        go_wp2_with (first
          | (at_lookup; refine wpList_get_ok_none _ rfl _ _ _ rfl 89 Tryz.underlying97 (Tryz.zeroValue89 _) nb Mn rfl HN.out key rfl HK.out HN1.out ?_)
          | (at_lookup; refine wpList_get_ok_some _ rfl _ _ _ rfl 130 Tryz.underlying131 (Tryz.zeroValue130 _) mb _ rfl HP.out key rfl HK.out _ HP1.out ?_))
        go_ret
        exact ⟨rfl, (Below.refl _ w).alloc (Nat.le_refl _) _⟩
      | none =>
        go_enter Tryz.func101, Tryz.ntmps101
        go_wp2_with (first
          | (at_lookup; refine wpList_get_ok_none _ rfl _ _ _ rfl 89 Tryz.underlying97 (Tryz.zeroValue89 _) nb Mn rfl HN.out key rfl HK.out HN1.out ?_)
          | (at_lookup; refine wpList_get_ok_some _ rfl _ _ _ rfl 130 Tryz.underlying131 (Tryz.zeroValue130 _) mb _ rfl HP.out key rfl HK.out _ HP1.out ?_))
        go_ret
        exact ⟨rfl, (Below.refl _ w).alloc (Nat.le_refl _) _⟩
    | none =>
      cases g1 with
      | some _ =>
        go_enter Tryz.func101, Tryz.ntmps101
        go_wp2_with (first
          | (at_lookup; refine wpList_get_ok_none _ rfl _ _ _ rfl 89 Tryz.underlying97 (Tryz.zeroValue89 _) nb Mn rfl HN.out key rfl HK.out HN1.out ?_)
          | (at_lookup; refine wpList_get_ok_none _ rfl _ _ _ rfl 130 Tryz.underlying131 (Tryz.zeroValue130 _) mb _ rfl HP.out key rfl HK.out HP1.out ?_))
        go_ret
        exact ⟨rfl, (Below.refl _ w).alloc (Nat.le_refl _) _⟩
      | none =>
        go_enter Tryz.func101, Tryz.ntmps101
        go_wp2_with (first
          | (at_lookup; refine wpList_get_ok_none _ rfl _ _ _ rfl 89 Tryz.underlying97 (Tryz.zeroValue89 _) nb Mn rfl HN.out key rfl HK.out HN1.out ?_)
          | (at_lookup; refine wpList_get_ok_none _ rfl _ _ _ rfl 130 Tryz.underlying131 (Tryz.zeroValue130 _) mb _ rfl HP.out key rfl HK.out HP1.out ?_))
        go_ret
        exact ⟨rfl, (Below.refl _ w).alloc (Nat.le_refl _) _⟩

end Go.Proofs.YtbgiklkpinflaaaGreat
