/- put; block; needed. -/
import Derived.Test.YtbgiklkpinflaaaGreatCrc
import Derived.OwnWalk
import Derived.Maps.AppendAt
import Derived.ArgAppend
import Derived.Deep.AppendLies
namespace Go.Proofs.YtbgiklkpinflaaaGreat
open Go.RowKit Go.Shelf

set_option maxHeartbeats 400000 in
theorem needed_calls (n : Nat) (w : World) (h : n ≤ 1000000000) : Calls Tryz.prog 111 #[.int .i64 (n : Int)] w fun e w' => e = .returned (.int .i64 (((n + 239) / 240 : Nat) : Int)) ∧ w = w' := by
  go_enter Tryz.func111, Tryz.ntmps111
  go_wp2
  go_ret
  exact ⟨ret_int (by omega), rfl⟩

/-- The k-th of the bytes of x. -/
def byteOf (x : Nat) (k : Nat) : UInt8 := UInt8.ofNat (x / 2 ^ (8 * k))
/-- The n low bytes of x, the highest first. -/
def be (x n : Nat) : List UInt8 := (List.range n).map fun j => byteOf x (n - 1 - j)
theorem be_length (x n : Nat) : (be x n).length = n := by simp [be]

theorem be_take (x n : Nat) {k : Nat} (hk : k < n) : (be x n).take (k + 1) = (be x n).take k ++ [byteOf x (n - 1 - k)] := by
  rw [List.take_succ_eq_append_getElem (by rw [be_length]; exact hk)]
  simp [be]
theorem byteOf_int (x m : Nat) : ((x : Int) / 2 ^ (8 * m) % 256) = ((byteOf x m).toNat : Int) := by
  unfold byteOf
  rw [UInt8.toNat_ofNat']
  rw [Int.natCast_emod, Int.natCast_ediv, Int.natCast_pow]
  rfl
theorem own_ge {w : World} {base n size : Nat} {e : TypeId} {v : Value} {xs : List Value} (h : w.ownsRow base e size v n xs) : ∀ g, v.ownBlock = some g → base ≤ g := by
  intro g hg
  rcases h.2 with ⟨rfl, _⟩ | ⟨g', cap, cur, rfl, hb, _⟩
  · simp [Value.ownBlock] at hg
  · simp [Value.ownBlock] at hg
    omega

theorem ownsRow_base {w : World} {b b' n size : Nat} {e : TypeId} {v : Value} {xs : List Value} (hb : b' ≤ b) (h : w.ownsRow b e size v n xs) : w.ownsRow b' e size v n xs := by
  refine ⟨h.1, ?_⟩
  rcases h.2 with hn | ⟨g, cap, cur, hv, hg, rest⟩
  · exact .inl hn
  · exact .inr ⟨g, cap, cur, hv, Nat.le_trans hb hg, rest⟩

/-- A slice without room. -/
def Full (w : World) (v : Value) (l : List UInt8) : Prop := ∃ g, v = .slice (some ⟨g, 0, none⟩) l.length l.length ∧ Cells w g 0 (l.map bv)

/-- k bytes are put. -/
def Putting (base : Nat) (v0 : Value) (w : World) (l : List UInt8) (x n k : Nat) (v : Value) (wr : World) : Prop :=
  ((k = 0 ∧ Full wr v l) ∨ wr.ownsRow base 5 1 v (l.length + k) ((l ++ (be x n).take k).map bv)) ∧ Below base w wr ∧ Keeps (fun k => v0.ownBlock = some k) w wr ∧ (∀ g, v.ownBlock = some g → v0.ownBlock = some g ∨ w.heap.size ≤ g)

set_option maxRecDepth 100000 in
set_option maxHeartbeats 2000000 in
theorem put_keeps (base : Nat) (v : Value) (l : List UInt8) (x n : Nat) (w : World) (hown : Full w v l ∨ w.ownsRow base 5 1 v l.length (l.map bv)) (hbase : base ≤ w.heap.size) (hx : x ≤ 18446744073709551615) (hn : n ≤ 8) (hn0 : 0 < n) (hl : l.length ≤ 1000000000) :
    Calls Tryz.prog 135 #[v, .int .u64 (x : Int), .int .i64 (n : Int)] w fun e w' => ∃ v', e = .returned v' ∧ w'.ownsRow base 5 1 v' (l ++ be x n).length ((l ++ be x n).map bv) ∧ Below base w w' ∧ Keeps (fun k => v.ownBlock = some k) w w' ∧ (∀ g, v'.ownBlock = some g → v.ownBlock = some g ∨ w.heap.size ≤ g) := by
  obtain ⟨i0, hi, hz0, hz1, hz2⟩ := info_parts Tryz.infoU8
  go_enter Tryz.func135, Tryz.ntmps135
  go_wp2
  go_loopw [0, 7] (fun u i wr => ∃ k : Nat, k ≤ n ∧ i = .int .i64 ((n : Int) - 1 - k) ∧ Putting base v w l x n k u wr) (fun _ i _ => (intOf i + 1).toNat)
  case atStart => exact ⟨0, Nat.zero_le _, by simp, hown.imp (fun h => ⟨rfl, h⟩) (fun h => by simpa using h), Below.refl _ _, Keeps.refl _ _, fun g hg => .inl hg⟩
  case round =>
    obtain ⟨k, hk, rfl, hP⟩ := hrel
    by_cases hlt : k < n
    · obtain ⟨m, hm⟩ : ∃ m : Nat, m = n - 1 - k := ⟨_, rfl⟩
      have e1 : (n : Int) - 1 - k = (m : Int) := by omega
      have hmn : m < n := by omega
      rw [e1]
      have HE := Lib.hid e1
      have HM := Lib.hid hm
      clear e1 hm
      have hm8 : (m : Int) ≤ 7 := by omega
      have hx' : (x : Int) ≤ 18446744073709551615 := by omega
      obtain ⟨hown1, hbel, hkp, hwh⟩ := hP
      have hbs := hbel.size
      have hkl : l.length + k ≤ 1000000008 := by omega
      rcases hown1 with ⟨hk0, g, rfl, hc⟩ | hown1
      · have HC := Lib.hid hc
        have HK0 := Lib.hid hk0
        clear hc hk0
        go_wp2_with (at_builtin; refine wpList_append_grows _ rfl _ _ 89 rfl 5 i0 (.int .u8 0) 1 1 Tryz.underlying89 hi hz0 hz1 hz2 rfl (by decide) (some ⟨g, 0, none⟩) l.length l.length (l.map bv) rfl (fun h => by cases h) ?c6 ?c7 ⟨wr.heap.size, 0, none⟩ 1 1 [.int .u8 ((x : Int) / 2 ^ (8 * m) % 256)] rfl rfl ?c1 ?c2 (by omega) ?c3 ?c4 ?_)
        case c1 => exact cell_one_new _ _ _
        case c2 => simp [Value.oneCell']
        case c3 => unfold maxLen; omega
        case c4 => omega
        case c6 => simp
        case c7 =>
          intro b hb j u hj
          cases hb
          rw [Addr.add_lit]
          exact Lib.cell?_alloc_some _ (HC.out j u hj)
        intro v' w1 hown2 hgrow
        go_wp2
        go_roundw
        case rel =>
          refine ⟨k + 1, by omega, by have := HE.out; congr 1; omega, ?_, (hbel.alloc (by omega) _).grown hgrow (by simp; omega) (fun _ h => by cases h), (hkp.alloc _).grown hgrow (fun _ h => by cases h), fun g hg => .inr (by have := own_ge hown2 g hg; have := hkp.size; omega)⟩
          have e : ((x : Int) / 2 ^ (8 * m) % 256) = ((byteOf x m).toNat : Int) := byteOf_int x m
          rw [be_take _ _ hlt, ← HM.out]
          rw [e] at hown2
          have hown3 := ownsRow_base (b' := base) (by omega) hown2
          exact .inr (by simpa [bv, be, HK0.out] using hown3)
        case measure => simp [intOf]
      · go_wp2_with (at_builtin; refine wpList_append_lies _ rfl _ _ 89 rfl base 5 i0 (.int .u8 0) 1 1 Tryz.underlying89 hi hz0 hz1 hz2 rfl (by decide) _ _ _ rfl (hown1.alloc _) ⟨wr.heap.size, 0, none⟩ 1 1 [.int .u8 ((x : Int) / 2 ^ (8 * m) % 256)] rfl rfl ?c1 ?c2 (by decide) ?c3 ?c4 ?c5 (wr.heap.size + 1) ?c8 ?_)
        case c1 => exact cell_one_new _ _ _
        case c2 => simp [Value.oneCell']
        case c3 => unfold maxLen; omega
        case c4 => omega
        case c5 => simp; omega
        case c8 => simp
        intro gg cap w1 hown2 hgrow hat _
        have hrow := own_ge hown1
        go_wp2
        go_roundw
        case rel =>
          refine ⟨k + 1, by omega, by have := HE.out; congr 1; omega, ?_, (hbel.alloc (by omega) _).grown hgrow (by simp; omega) hrow, (hkp.alloc _).grown hgrow (fun g h hlt => (hwh g h).resolve_right (by omega)), fun g hg => ?_⟩
          · have e : ((x : Int) / 2 ^ (8 * m) % 256) = ((byteOf x m).toNat : Int) := byteOf_int x m
            rw [be_take _ _ hlt, ← HM.out]
            rw [e] at hown2
            exact .inr (by simpa [bv, Nat.add_assoc] using hown2)
          · have eg : gg = g := by simpa [Value.ownBlock] using hg
            subst eg
            rcases hat with h | h
            · exact hwh _ h
            · exact .inr (by have := hkp.size; omega)
        case measure => simp [intOf]
    · have hk2 : k = n := by omega
      have e1 : (n : Int) - 1 - k = -1 := by omega
      rw [e1]
      have HK := Lib.hid hk2
      clear e1 hk2
      go_wp2
      go_ret
      obtain ⟨h1, h2, h3, h4⟩ := hP
      have h1 := h1.resolve_left (fun h => by have := HK.out; omega)
      rw [HK.out, List.take_of_length_le (by rw [be_length]; omega)] at h1
      refine ⟨_, rfl, ?_, h2, h3, h4⟩
      rw [List.length_append, be_length]
      exact h1

theorem put_calls (base : Nat) (v : Value) (l : List UInt8) (x n : Nat) (w : World) (hown : Full w v l ∨ w.ownsRow base 5 1 v l.length (l.map bv)) (hbase : base ≤ w.heap.size) (hx : x ≤ 18446744073709551615) (hn : n ≤ 8) (hn0 : 0 < n) (hl : l.length ≤ 1000000000) :
    Calls Tryz.prog 135 #[v, .int .u64 (x : Int), .int .i64 (n : Int)] w fun e w' => ∃ v', e = .returned v' ∧ w'.ownsRow base 5 1 v' (l ++ be x n).length ((l ++ be x n).map bv) ∧ Below base w w' :=
  (put_keeps base v l x n w hown hbase hx hn hn0 hl).mono fun _ _ ⟨v', e1, e2, e3, _⟩ => ⟨v', e1, e2, e3⟩

end Go.Proofs.YtbgiklkpinflaaaGreat
